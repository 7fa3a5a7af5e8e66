/- Part KF. -/
import Derived.Test.YtndfaefmmcoapaaGreatUeSC
set_option linter.unusedSectionVars false
set_option linter.unusedVariables false
set_option linter.unusedSimpArgs false
set_option linter.defProp false
set_option maxRecDepth 100000
namespace Go.Pd
open Go Go.Proofs Go.Shelf Go.Sort
open BitVec renaming isValue -> ZA
open Ru
def rlu (ll:List (List Int)):List (List D):=ll.map fun l=>[.sl 1 (rows .u64 l)]
theorem vP (l:List (List Int)):(rlu l).length=l.length:=by simp [rlu]
theorem rS (l:List (List Int)) {i:Nat} (h:i<l.length):(rlu l).getD i [] = [.sl 1 (rows .u64 (l.getD i []))]:=by simp [rlu,List.getD,h]
theorem aHi (l:List (List Int)) (n:Nat):(rlu l).take n=rlu (l.take n):=by simp [rlu,List.map_take]
theorem aHj (l:List (List Int)) (r:List Int):rlu l ++ [[.sl 1 (rows .u64 r)]]=rlu (l ++ [r]):=by simp [rlu]
theorem aNv : rlu [] = []:=rfl
theorem aF (l:List (List Int)):∀ e ∈ rlu l,D.xU e=true:=by intro e he;simp only [rlu,List.mem_map] at he;obtain⟨r,_,rfl⟩:=he;have h:∀ e ∈ rows .u64 r,D.xU e=true:=uS _ r;have:(rows .u64 r).all D.xU=true:=List.all_eq_true.2 h;simp [D.xU,D.xG,this]
theorem aLy (l:List (List Int)):uO (rlu l):=aF l
theorem aEe (a:Int):yV Tryz.prog 256 [.int .u64 a] (.bool false):=by refine xX.xP mixed Tryz.func256 bV6 (by simp) fun hf=>?_;simp only [simprocAttr,-ZA,↓zU,↓zD,zV,zT,zW];exact .same
theorem bZb (a b:Int):yV Tryz.prog 226 [.int .u64 a,.int .u64 b] (.int .i64 (if a<b then -1 else if b<a then 1 else 0)):=by
 refine xX.xP mixed Tryz.func226 bUe (by simp) fun hf=>?_;simp only [simprocAttr,-ZA,↓zU,↓zD,zV,zT,zW];refine .go (cq (aEe a)) ?_;simp only [simprocAttr,-ZA,↓zU,↓zD,zV,zT,zW];refine .go (cq (aEe b)) ?_
 by_cases h1:a<b
 ·simp only [simprocAttr,-ZA,↓zU,↓zD,zV,zT,zW,h1];exact .same
 ·by_cases h2:b<a
  ·simp only [simprocAttr,-ZA,↓zU,↓zD,zV,zT,zW,h1,h2];exact .same
  ·simp only [simprocAttr,-ZA,↓zU,↓zD,zV,zT,zW,h1,h2];exact .same
theorem bYu (a b:List Int):yV Tryz.prog 186 [.sl 1 (rows .u64 a),.sl 1 (rows .u64 b)] (.int .i64 (oD a b)):=by
 refine xX.xP mixed Tryz.func186 bU1 (by simp) fun hf=>?_;simp only [D.tE,D.fact,xE] at hf;have hlen:=hf.1.1;simp only [simprocAttr,-ZA,↓zU,↓zD,zV,zT,zW]
 refine xW (fun k:Nat=>[(11,.int .i64 k),(10,.int .i64 a.length),(9,.sl 1 (rows .u64 a)),(1,.sl 1 (rows .u64 b)),(0,.sl 1 (rows .u64 a))]) (fun _=>⟨0,[]⟩) (fun k=>k<=a.length/\k<=b.length/\oD a b=oD (a.drop k) (b.drop k)) (fun k=>a.length-k) 0 ⟨Nat.zero_le _,Nat.zero_le _,rfl⟩ ?_ ?_
 ·(refine xI.same ?_; simp [xR,Fr.get])
 intro k ⟨hk,hk2,hi⟩;refine xQ mixed ?_
 by_cases h:k<a.length
 ·have hd:((k:Int)<(a.length:Int)):=by omega
  have e1:a.drop k=a.getD k 0 :: a.drop (k+1):=by simp [List.getD,h]
  rw [e1] at hi
  by_cases h2:k<b.length
  ·have hd2:¬ ((b.length:Int)<=(k:Int)):=by omega
   have hd3:((k:Int)<(b.length:Int)):=by omega
   have e2:b.drop k=b.getD k 0 :: b.drop (k+1):=by simp [List.getD,h2]
   rw [e2,aKk] at hi;simp only [simprocAttr,-ZA,↓zU,↓zD,zV,zT,zW,hd,yZ .u64 a h,hd2,hd3,yZ .u64 b h2]
   (repeat refine sd ?_)
   refine .go (xX.yN (bZb (a.getD k 0) (b.getD k 0)) rfl) ?_
   by_cases c1:a.getD k 0<b.getD k 0
   ·rw [if_pos c1] at hi ⊢;simp only [simprocAttr,-ZA,↓zU,↓zD,zV,zT,zW];rw [hi];exact .same
   ·by_cases c2:b.getD k 0<a.getD k 0
    ·rw [if_neg c1,if_pos c2] at hi ⊢;simp only [simprocAttr,-ZA,↓zU,↓zD,zV,zT,zW];rw [hi];exact .same
    ·rw [if_neg c1,if_neg c2] at hi ⊢;simp only [simprocAttr,-ZA,↓zU,↓zD,zV,zT,zW];refine⟨k+1,⟨by omega,by omega,hi⟩,?_,by omega⟩
     (refine xI.same ?_; simp only [xR,Fr.get,simprocAttr,-ZA,zS])
     exact wrap_i64 (by omega)
  ·have hd2:((b.length:Int)<=(k:Int)):=by omega
   rw [List.drop_eq_nil_of_le (show b.length<=k by omega),aPh] at hi;simp only [simprocAttr,-ZA,↓zU,↓zD,zV,zT,zW,hd,yZ .u64 a h,hd2]
   (repeat refine sd ?_)
   rw [hi];exact .same
 ·have hd:¬ ((k:Int)<(a.length:Int)):=by omega
  rw [List.drop_eq_nil_of_le (show a.length<=k by omega),aGs,List.length_drop] at hi
  by_cases c:a.length<b.length
  ·have c':(a.length:Int)<(b.length:Int):=by omega
   rw [if_neg (by omega)] at hi;simp only [simprocAttr,-ZA,↓zU,↓zD,zV,zT,zW,hd,c'];rw [hi];exact .same
  ·have c':¬ (a.length:Int)<(b.length:Int):=by omega
   rw [if_pos (by omega)] at hi;simp only [simprocAttr,-ZA,↓zU,↓zD,zV,zT,zW,hd,c'];rw [hi];exact .same
theorem aXn (a b:List Int):yV Tryz.prog 74 [.sl 1 (rows .u64 a),.sl 1 (rows .u64 b)] (.bool (decide (a=b))):=by
 refine xX.xP mixed Tryz.func74 k74 (by simp) fun hf=>?_;simp only [D.tE,D.fact,xE] at hf;have hlen:=hf.1.1;by_cases h1:a.length=b.length
 case neg=>
  have h1':((a.length:Int) != (b.length:Int))= true:=by simp; omega
  simp only [simprocAttr,-ZA,↓zU,↓zD,zV,zT,zW,h1'];exact .drop (by simp) (by simp only [vw,D.bool.injEq]; symm; apply decide_eq_false; rintro rfl; exact h1 rfl)
 have h1':((a.length:Int) != (b.length:Int))= false:=by simp; omega
 simp only [simprocAttr,-ZA,↓zU,↓zD,zV,zT,zW,h1']
 refine xW (fun k:Nat=>[(13,.int .i64 k),(12,.int .i64 a.length),(1,.sl 1 (rows .u64 b)),(0,.sl 1 (rows .u64 a))]) (fun _=>⟨0,[]⟩) (fun k=>k<=a.length/\∀ i,i<k->a.getD i 0=b.getD i 0) (fun k=>a.length-k) 0 ⟨Nat.zero_le _,fun i hi=>by omega⟩ ?_ ?_
 ·(refine xI.same ?_; simp [xR,Fr.get])
 intro k ⟨hk,hi⟩;refine xQ mixed ?_
 by_cases h:k<a.length
 ·have hd:((k:Int)<(a.length:Int)):=by omega
  by_cases hb:a.getD k 0=b.getD k 0
  ·have hb1:(a.getD k 0 != b.getD k 0)= false:=by simp only [hb,bne_self_eq_false]
   simp only [simprocAttr,-ZA,↓zU,↓zD,zV,zT,zW,hd,yZ _ _ h,yZ .u64 b (show k<b.length by omega),hb1]
   (repeat refine sd ?_)
   refine⟨k+1,⟨by omega,fun i hi2=>?_⟩,?_,by omega⟩
   ·by_cases ei:i=k
    ·rw [ei,hb]
    ·exact hi i (by omega)
   (refine xI.same ?_; simp only [xR,Fr.get,simprocAttr,-ZA,zS])
   exact wrap_i64 (by omega)
  ·have hb1:(a.getD k 0 != b.getD k 0)= true:=bne_iff_ne.2 hb;simp only [simprocAttr,-ZA,↓zU,↓zD,zV,zT,zW,hd,yZ _ _ h,yZ .u64 b (show k<b.length by omega),hb1]
   (repeat refine sd ?_)
   exact .drop (by simp) (by simp only [vw,D.bool.injEq]; symm; apply decide_eq_false; rintro rfl; exact hb rfl)
 ·have hd:¬ ((k:Int)<(a.length:Int)):=by omega
  have hk':k=a.length:=by omega
  subst hk';simp only [simprocAttr,-ZA,↓zU,↓zD,zV,zT,zW,hd];refine .drop (by simp) ?_;simp only [vw,D.bool.injEq]; symm; apply decide_eq_true;refine List.ext_getElem h1 fun i h2 h3=>?_;have:=hi i h2;simpa [List.getD,h2,h3] using this
theorem jP (a b:List Int):yV Tryz.prog 124 [.sl 1 (rows .u64 a),.sl 1 (rows .u64 b)] (.int .i64 (kc a b)):=by
 have h1:=bW4 (a.length:Int) (b.length:Int);have h2:=bYu a b;have h3:=bV1 (if (a.length:Int)<(b.length:Int) then -1 else if (b.length:Int)<(a.length:Int) then 1 else 0) (oD a b)
 have e:(if (if (a.length:Int)<(b.length:Int) then(-1:Int) else if (b.length:Int)<(a.length:Int) then 1 else 0)≠ 0 then(if (a.length:Int)<(b.length:Int) then(-1:Int) else if (b.length:Int)<(a.length:Int) then 1 else 0) else oD a b)= kc a b:=by
  unfold kc
  by_cases c1:a.length<b.length
  ·rw [if_pos (show (a.length:Int)<b.length by omega),if_pos c1]; rfl
  ·rw [if_neg (show ¬ (a.length:Int)<b.length by omega),if_neg c1]
   by_cases c2:b.length<a.length
   ·rw [if_pos (show (b.length:Int)<a.length by omega),if_pos c2]; rfl
   ·rw [if_neg (show ¬ (b.length:Int)<a.length by omega),if_neg c2]; rfl
 rw [e] at h3;simp only [gA,oZ] at h3;generalize (if (a.length:Int)<(b.length:Int) then(-1:Int) else if (b.length:Int)<(a.length:Int) then 1 else 0)= z at h1 h3;refine xX.xP mixed Tryz.func124 bTt (by simp) fun hf=>?_;simp only [simprocAttr,-ZA,↓zU,↓zD,zV,zT,zW];refine .go (cq h1) ?_;simp only [simprocAttr,-ZA,↓zU,↓zD,zV,zT,zW];refine .go (cr h2) ?_;simp only [simprocAttr,-ZA,↓zU,↓zD,zV,zT,zW];refine⟨by simp [D.xU,D.xG],?_⟩;refine .go (cr h3) ?_;simp only [simprocAttr,-ZA,↓zU,↓zD,zV,zT,zW];exact .same
theorem aEg (a b:List Int):yV Tryz.prog 129 [.sl 1 (rows .u64 a),.sl 1 (rows .u64 b)] (.bool (decide (a=b))):=by refine xX.xP mixed Tryz.func129 bTr (by simp) fun hf=>?_;simp only [simprocAttr,-ZA,↓zU,↓zD,zV,zT,zW];refine .go (cr (aXn a b)) ?_;simp only [simprocAttr,-ZA,↓zU,↓zD,zV,zT,zW];exact .same
theorem aLn (l:List Int):(rows .u64 l).map (fun e=>bVq (hd e))= l:=by
 unfold rows;rw [List.map_map];conv=>rhs; rw [<- List.map_id l]
 exact List.map_congr_left fun x _=>rfl
def aT2 : Go.Shelf.Ren where
 f:=fun x=>match x with | 6=>127 | 15=>189 | 14=>188 | 28=>235 | 29=>236 | 20=>227 | 21=>228 | 22=>229 | 23=>230 | 24=>231 | 25=>232 | 26=>233 | 27=>234 | 46=>257 | 47=>258 | 48=>259 | 49=>260 | 50=>261 | 57=>273 | n=>n
 t:=fun x=>match x with | 22=>51 | 24=>22 | 25=>49 | 39=>88 | 53=>248 | 55=>56 | 46=>242 | 45=>241 | 50=>129 | 66=>268 | 70=>272 | 76=>280 | 77=>281 | n=>n
 g:=fun x=>x
theorem aKn : SlLaysF.n6 Tryz.prog aT2 where
 mixed:=by kernel_rfl
 f6:=⟨ "slices.SortFunc[[][]uint64,[]uint64]",by decide,Tryz.func127.trans (congrArg some (by kernel_rfl))⟩
 f14:=⟨ "slices.pdqsortCmpFunc[[]uint64]",by decide,Tryz.func188.trans (congrArg some (by kernel_rfl))⟩
 f15:=Tryz.func189.trans (congrArg some (by kernel_rfl))
 f20:=⟨ "slices.insertionSortCmpFunc[[]uint64]",by decide,Tryz.func227.trans (congrArg some (by kernel_rfl))⟩
 f21:=⟨ "slices.heapSortCmpFunc[[]uint64]",by decide,Tryz.func228.trans (congrArg some (by kernel_rfl))⟩
 f22:=⟨ "slices.breakPatternsCmpFunc[[]uint64]",by decide,Tryz.func229.trans (congrArg some (by kernel_rfl))⟩
 f23:=⟨ "slices.choosePivotCmpFunc[[]uint64]",by decide,Tryz.func230.trans (congrArg some (by kernel_rfl))⟩
 f24:=⟨ "slices.reverseRangeCmpFunc[[]uint64]",by decide,Tryz.func231.trans (congrArg some (by kernel_rfl))⟩
 f25:=⟨ "slices.partialInsertionSortCmpFunc[[]uint64]",by decide,Tryz.func232.trans (congrArg some (by kernel_rfl))⟩
 f26:=⟨ "slices.partitionEqualCmpFunc[[]uint64]",by decide,Tryz.func233.trans (congrArg some (by kernel_rfl))⟩
 f27:=⟨ "slices.partitionCmpFunc[[]uint64]",by decide,Tryz.func234.trans (congrArg some (by kernel_rfl))⟩
 f28:=Tryz.func235.trans (congrArg some (by kernel_rfl))
 f29:=Tryz.func236.trans (congrArg some (by kernel_rfl))
 f46:=⟨ "slices.siftDownCmpFunc[[]uint64]",by decide,Tryz.func257.trans (congrArg some (by kernel_rfl))⟩
 f47:=Tryz.func258.trans (congrArg some (by kernel_rfl))
 f48:=Tryz.func259.trans (congrArg some (by kernel_rfl))
 f49:=⟨ "slices.medianAdjacentCmpFunc[[]uint64]",by decide,Tryz.func260.trans (congrArg some (by kernel_rfl))⟩
 f50:=⟨ "slices.medianCmpFunc[[]uint64]",by decide,Tryz.func261.trans (congrArg some (by kernel_rfl))⟩
 f57:=⟨ "slices.order2CmpFunc[[]uint64]",by decide,Tryz.func273.trans (congrArg some (by kernel_rfl))⟩
 t0:=Tryz.underlying0
 a0:=Tryz.isAgg0
 z0:=Tryz.sizeOf0
 v0:=Tryz.zeroValue0
 t3:=Tryz.underlying3
 a3:=Tryz.isAgg3
 z3:=Tryz.sizeOf3
 v3:=Tryz.zeroValue3
 t4:=Tryz.underlying4
 a4:=Tryz.isAgg4
 z4:=Tryz.sizeOf4
 v4:=Tryz.zeroValue4
 t5:=Tryz.underlying5
 a5:=Tryz.isAgg5
 z5:=Tryz.sizeOf5
 v5:=Tryz.zeroValue5
 t9:=Tryz.underlying9
 a9:=Tryz.isAgg9
 z9:=Tryz.sizeOf9
 v9:=Tryz.zeroValue9
 t22:=Tryz.underlying51
 a22:=Tryz.isAgg51
 z22:=Tryz.sizeOf51
 v22:=Tryz.zeroValue51
 a24:=Tryz.isAgg22
 z24:=Tryz.sizeOf22
 t25:=Tryz.underlying49
 a25:=Tryz.isAgg49
 z25:=Tryz.sizeOf49
 v25:=Tryz.zeroValue49
 t39:=Tryz.underlying88
 a39:=Tryz.isAgg88
 z39:=Tryz.sizeOf88
 v39:=Tryz.zeroValue88
 t45:=Tryz.underlying241
 a45:=Tryz.isAgg241
 z45:=Tryz.sizeOf241
 v45:=Tryz.zeroValue241
 t46:=Tryz.underlying242
 a46:=Tryz.isAgg242
 z46:=Tryz.sizeOf242
 v46:=Tryz.zeroValue242
 t50:=Tryz.underlying129
 a50:=Tryz.isAgg129
 z50:=Tryz.sizeOf129
 v50:=Tryz.zeroValue129
 t53:=Tryz.underlying248
 a53:=Tryz.isAgg248
 z53:=Tryz.sizeOf248
 v53:=Tryz.zeroValue248
 t55:=Tryz.underlying56
 a55:=Tryz.isAgg56
 z55:=Tryz.sizeOf56
 v55:=Tryz.zeroValue56
 t66:=Tryz.underlying268
 a66:=Tryz.isAgg268
 z66:=Tryz.sizeOf268
 v66:=Tryz.zeroValue268
 t70:=Tryz.underlying272
 a70:=Tryz.isAgg272
 z70:=Tryz.sizeOf272
 v70:=Tryz.zeroValue272
 t76:=Tryz.underlying280
 a76:=Tryz.isAgg280
 z76:=Tryz.sizeOf280
 v76:=Tryz.zeroValue280
 t77:=Tryz.underlying281
 a77:=Tryz.isAgg281
 z77:=Tryz.sizeOf281
 v77:=Tryz.zeroValue281
def nZ : D->List Int
 | .sl _ els=>els.map fun e=>bVq (hd e)
 | _=>[]
theorem pI (l:List Int):nZ (.sl 1 (rows .u64 l))= l:=aLn l
theorem aHk {l:List (List Int)} {els:List (List D)} (h:els.Perm (rlu l)):∃ m:List (List Int),els=rlu m/\m.Perm l:=by
 refine⟨els.map fun e=>nZ (hd e),?_,?_⟩
 ·unfold rlu;rw [List.map_map];conv=>lhs; rw [<- List.map_id els]
  refine List.map_congr_left fun e he=>?_;have:=h.mem_iff.1 he;simp only [rlu,List.mem_map] at this;obtain⟨n,_,rfl⟩:=this;show [D.sl 1 (rows .u64 n)] = [D.sl 1 (rows .u64 (nZ (.sl 1 (rows .u64 n))))];rw [pI]
 ·have:=h.map fun e=>nZ (hd e)
  have e:(rlu l).map (fun e=>nZ (hd e))= l:=by
   unfold rlu;rw [List.map_map];conv=>rhs; rw [<- List.map_id l]
   exact List.map_congr_left fun x _=>pI x
  rw [e] at this;exact this
theorem aEj {l:List (List Int)} {i:Nat} (h:i<l.length):nZ (hd ((rlu l).getD i []))= l.getD i []:=by rw [rS _ h]; exact pI _
theorem aUk {σ:St} {key:Nat} {l:List (List Int)} (hget:σ.get key=some ⟨1,rlu l⟩) (hne:l ≠ []) (hlen:l.length<=1000) :
  xX Tryz.prog 127 [.osl key 1 l.length,.fn 124 []] σ (.tup []) (σ.set key ⟨1,rlu (aX8 l)⟩):=by
 have ho:tO Tryz.prog 127:=⟨_,Tryz.func127,by kernel_rfl,by kernel_rfl⟩;have ho2:tO Tryz.prog 124:=⟨_,Tryz.func124,by kernel_rfl,by kernel_rfl⟩
 have h:=aI4 (P:=Tryz.prog) (ρ:=aT2) aKn ho (g:=124) (C:=fun d=>∃ l:List Int,d = .sl 1 (rows .u64 l)) (cf:=fun x y=>kc (nZ x) (nZ y)) ho2
  (by rintro x y ⟨a,rfl⟩ ⟨b,rfl⟩; rw [pI,pI]; exact jP a b) (by intro x _; rw [aN9]; omega) (by intro x y z _ _ _ h1 h2; exact aXg h1 h2) (by intro x y z _ _ _ h1 h2; exact lP h1 h2)
  hget (target:=rlu (aX8 l)) (by
   intro e he;have hp:=aF l e he;simp only [rlu,List.mem_map] at he;obtain⟨n,hn,rfl⟩:=he;exact⟨_,rfl,by simpa [D.xU] using hp,n,rfl⟩) (by rw [vP]; omega) (by intro c; apply hne; simpa [rlu] using c) (by
   intro els' hp hs;obtain⟨m,rfl,hm⟩:=aHk hp;rw [aMn hm (bZe fun a b hab hb=>?_)];have:=hs a b hab (by rw [vP]; exact hb);change ¬ kc (nZ _) (nZ _)<0 at this;rw [aEj hb,aEj (show a<m.length by omega)] at this;exact this)
 rw [vP] at h;exact h
theorem aLi {m:List (List Int)} (x:List Int) (hm:asc m) (hl:m.length<=1000):∃ b:Bool,yV Tryz.prog 123 [.sl 1 (rlu m),.sl 1 (rows .u64 x),.fn 124 []] (.tup [.int .i64 (below m x),.bool b]):=by
 refine⟨decide (below m x<m.length)&& decide (kc (m.getD (below m x) []) x=0),?_⟩;refine xX.xP mixed Tryz.func123 bTu (by simp) fun hf=>?_;simp only [simprocAttr,-ZA,↓zU,↓zD,zV,zT,zW,vP]
 refine xW (fun a:Nat × Nat=>[(10,.int .i64 a.2),(9,.int .i64 a.1),(8,.int .i64 m.length),(2,.fn 124 []),(1,.sl 1 (rows .u64 x)),(0,.sl 1 (rlu m))]) (fun _=>⟨0,[]⟩) (fun a=>a.1<=a.2/\a.2<=m.length/\(∀ i,i<a.1->kc (m.getD i []) x<0)/\ (∀ i,a.2<=i->i<m.length->¬ kc (m.getD i []) x<0)) (fun a=>a.2-a.1) (0,m.length) ⟨Nat.zero_le _,Nat.le_refl _,fun i hi=>by omega,fun i h1 h2=>by omega⟩ ?_ ?_
 ·(refine xI.same ?_; simp [xR,Fr.get])
 intro ⟨lo,hi⟩ ⟨h1,h2,h3,h4⟩;simp only at h1 h2 h3 h4;refine xQ mixed ?_
 by_cases h:lo<hi
 ·have hd:((lo:Int)<(hi:Int)):=by omega
  have es:IntKind.i64.wrap ((lo:Int)+ (hi:Int))= ((lo+hi:Nat):Int):=by rw [wrap_i64 (by omega)]; omega
  have ew:IntKind.i64.wrap (((lo+hi)/ 2:Nat):Int)= (((lo+hi)/ 2:Nat):Int):=wrap_i64 (by omega);have hmid:(lo+hi)/ 2<m.length:=by omega
  simp only [simprocAttr,-ZA,↓zU,↓zD,zV,zT,zW,hd,es,aDl (show lo+hi<=1000000 by omega),aI7 (show lo+hi<=1000000 by omega),ew,vP,rS m hmid]
  (repeat refine sd ?_)
  refine .go (xX.yN (jP (m.getD ((lo+hi)/ 2) []) x) (by simp [D.xU,D.xG])) ?_
  by_cases c:kc (m.getD ((lo+hi)/ 2) []) x<0
  ·simp only [simprocAttr,-ZA,↓zU,↓zD,zV,zT,zW,c];refine⟨((lo+hi)/ 2+1,hi),⟨by show (lo+hi)/ 2+1<=hi; omega,h2,fun i hi2=>aEr hm (show i<=(lo+hi)/ 2 by change i<(lo+hi)/ 2+1 at hi2; omega) hmid c,h4⟩,?_,by show hi-((lo+hi)/ 2+1)<hi-lo; omega⟩
   (refine xI.same ?_; simp only [xR,Fr.get,simprocAttr,-ZA,zS])
   exact wrap_i64 (by omega)
  ·simp only [simprocAttr,-ZA,↓zU,↓zD,zV,zT,zW,c];refine⟨(lo,(lo+hi)/ 2),⟨by show lo<=(lo+hi)/ 2; omega,by show (lo+hi)/ 2<=m.length; omega,h3,fun i hi2 hi3 hc=>c (aEr hm hi2 hi3 hc)⟩,?_,by show (lo+hi)/ 2-lo<hi-lo; omega⟩
   (refine xI.same ?_; simp only [xR,Fr.get,simprocAttr,-ZA,zS])
 ·have hd:¬ ((lo:Int)<(hi:Int)):=by omega
  have e:below m x=lo:=aXr (by omega) h3 fun a ha hb=>h4 a (by omega) hb;rw [e]
  by_cases hlen:lo<m.length
  ·have hd2:((lo:Int)<(m.length:Int)):=by omega
   simp only [simprocAttr,-ZA,↓zU,↓zD,zV,zT,zW,hd,hd2,vP,rS m hlen]
   (repeat refine sd ?_)
   refine .go (xX.yN (jP (m.getD lo []) x) (by simp [D.xU,D.xG])) ?_;simp only [simprocAttr,-ZA,↓zU,↓zD,zV,zT,zW];exact .drop (by simp) (by simp only [vw,vwL,and_true,D.bool.injEq,true_and,List.length_cons,List.length_nil,decide_eq_true hlen,Bool.true_and]; rfl)
  ·have hd2:¬ ((lo:Int)<(m.length:Int)):=by omega
   simp only [simprocAttr,-ZA,↓zU,↓zD,zV,zT,zW,hd,hd2];exact .drop (by simp) (by simp only [vw,vwL,and_true,D.bool.injEq,true_and,List.length_cons,List.length_nil,decide_eq_false hlen,Bool.false_and])
theorem aD9 (l:List (List Int)) (i:Nat) (x:List Int):(rlu l).set i [.sl 1 (rows .u64 x)]=rlu (l.set i x):=by simp [rlu,List.map_set]
def aE8 (l:List (List Int)):List (List D):=rlu (dedup l)++ List.replicate (l.length-(dedup l).length) [.xH]
theorem aP1 {σ:St} {key:Nat} {l:List (List Int)} (hget:σ.get key=some ⟨1,rlu l⟩) (hlen:l.length<=1000) (hne:l ≠ []) :
  xX Tryz.prog 128 [.osl key 1 l.length,.fn 129 []] σ (.osl key 1 (dedup l).length) (σ.set key ⟨1,aE8 l⟩):=by
 obtain⟨nx,xS⟩:=σ;have hpos:0<l.length:=List.length_pos_iff.2 hne;have hg:St.look xS key=some ⟨1,rlu l⟩:=hget
 have whole:dedup l=l->(.osl key 1 (dedup l).length=D.osl key 1 l.length/\(⟨nx,vV xS key ⟨1,aE8 l⟩⟩:St)= ⟨nx,xS⟩):=by
  intro e;refine⟨by rw [e],?_⟩;have:aE8 l=rlu l:=by unfold aE8; rw [e]; simp
  rw [this,pM hg]
 refine xX.xP mixed Tryz.func128 bVo (by simp) fun hf=>?_
 by_cases h2:l.length<2
 ·have hd:(l.length:Int)<2:=by omega
  simp only [simprocAttr,-ZA,↓zU,↓zD,zV,zT,zW,hd]
  have e:dedup l=l:=by unfold dedup;rw [lJ (Nat.le_refl _) (fun i h1 h3=>by omega),List.take_length]
  obtain⟨e1,e2⟩:=whole e;exact .inl ⟨e1,e2⟩
 have hd:¬ (l.length:Int)<2:=by omega
 simp only [simprocAttr,-ZA,↓zU,↓zD,zV,zT,zW,hd]
 refine xW (fun k:Nat=>[(5,.int .i64 k),(1,.fn 129 []),(0,.osl key 1 l.length)]) (fun _=>⟨nx,xS⟩) (fun k=>1<=k/\k<=l.length/\∀ i,0<i->i<k->l.getD i []≠l.getD (i-1) []) (fun k=>l.length-k) 1 ⟨Nat.le_refl _,by omega,fun i h1 h2=>by omega⟩ ?_ ?_
 ·(refine xI.same ?_; simp [xR,Fr.get])
 intro i0 ⟨hi1,hi2,hi3⟩;refine xQ mixed ?_;by_cases h:i0<l.length
 case neg=>
  have hd:¬ ((i0:Int)<(l.length:Int)):=by omega
  have e:dedup l=l:=by unfold dedup;rw [lJ (Nat.le_refl _) (fun i h1 h3=>hi3 i h1 (by omega)),List.take_length]
  obtain⟨e1,e2⟩:=whole e;simp only [simprocAttr,-ZA,↓zU,↓zD,zV,zT,zW,hd];exact .inl ⟨e1,e2⟩
 have hd:((i0:Int)<(l.length:Int)):=by omega
 have em:IntKind.i64.wrap ((i0:Int)-1)= ((i0-1:Nat):Int):=by rw [wrap_i64 (by omega)]; omega
 simp only [simprocAttr,-ZA,↓zU,↓zD,zV,zT,zW,hd,hg,rS l h,em,vP,rS l (show i0-1<l.length by omega)]
 (repeat refine sd ?_)
 refine .go (xX.yN (aEg (l.getD i0 []) (l.getD (i0-1) [])) (by simp [D.xU,D.xG])) ?_;by_cases hq:l.getD i0 []=l.getD (i0-1) []
 case neg=>
  simp only [simprocAttr,-ZA,↓zU,↓zD,zV,zT,zW,decide_eq_false hq]
  refine⟨i0+1,⟨by omega,by omega,fun i h1 h3=>?_⟩,?_,by omega⟩
  ·by_cases e:i=i0
   ·rw [e]; exact hq
   ·exact hi3 i h1 (by omega)
  (refine xI.same ?_; simp only [xR,Fr.get,simprocAttr,-ZA,zS])
  exact wrap_i64 (by omega)
 simp only [simprocAttr,-ZA,↓zU,↓zD,zV,zT,zW,decide_eq_true hq];have ei:¬ (i0:Int)= 0:=by omega
 have ei2:¬ (i0:Int)= (l.length:Int):=by omega
 refine⟨i0,l.length,rfl,rfl,by omega,by omega,by omega,?_⟩;simp only [Int.toNat_natCast,if_neg ei,if_neg ei2];have d1:tM l (i0+1)= l.take i0:=by rw [tM,if_pos ⟨by omega,hq⟩,lJ (by omega) hi3]
 refine xW (fun a:Nat × List (List Int)=>[(7,.int .i64 a.1),(6,.sub key 1 i0 (l.length-i0)),(5,.int .i64 (tM l (i0+a.1)).length),(1,.fn 129 []),(0,.osl key 1 l.length)]) (fun a=>⟨nx,vV xS key ⟨1,rlu a.2⟩⟩)
  (fun a=>1<=a.1/\i0+a.1<=l.length/\a.2.length=l.length/\(tM l (i0+a.1)).length<i0+a.1/\a.2.take (tM l (i0+a.1)).length=tM l (i0+a.1)/\ ∀ j,i0+a.1-1<=j->a.2.getD j []=l.getD j []) (fun a=>l.length-a.1) (1,l)
  ⟨Nat.le_refl _,by omega,rfl,by rw [d1,List.length_take]; omega,by rw [d1,List.length_take,Nat.min_eq_left (by omega)],fun j _=>rfl⟩ ?_ ?_
 ·rw [pM hg]
  (refine xI.same ?_; simp [xR,Fr.get,d1])
  omega
 intro ⟨q,o⟩ ⟨q1,q2,q3,q4,q5,q6⟩;simp only at q1 q2 q3 q4 q5 q6;have hlk:∀ ob:Ob,St.look (vV xS key ob) key=some ob:=fun ob=>fK hg;refine xQ mixed ?_
 by_cases hp:i0+q<l.length
 ·have hd3:((q:Int)<((l.length-i0:Nat):Int)):=by omega
  have eq1:IntKind.i64.wrap ((q:Int)-1)= ((q-1:Nat):Int):=by rw [wrap_i64 (by omega)]; omega
  simp only [simprocAttr,-ZA,↓zU,↓zD,zV,zT,zW,hd3,hlk,eq1,vP,rS o (show i0+q<o.length by omega),rS o (show i0+(q-1)<o.length by omega)]
  (repeat refine sd ?_)
  refine .go (xX.yN (aEg (o.getD (i0+q) []) (o.getD (i0+(q-1)) [])) (by simp [D.xU,D.xG])) ?_;have a1:o.getD (i0+q) []=l.getD (i0+q) []:=q6 _ (by omega);have a2:o.getD (i0+(q-1)) []=l.getD (i0+q-1) []:=by rw [q6 _ (by omega)]; congr 1; omega
  rw [a1,a2]
  by_cases hq2:l.getD (i0+q) []=l.getD (i0+q-1) []
  ·have dd:tM l (i0+(q+1))= tM l (i0+q):=by show tM l ((i0+q)+ 1)= _;rw [tM,if_pos ⟨by omega,hq2⟩]
   simp only [simprocAttr,-ZA,↓zU,↓zD,zV,zT,zW,decide_eq_true hq2];refine⟨(q+1,o),⟨by show 1<=q+1; omega,by show i0+(q+1)<=l.length; omega,q3,by show (tM l (i0+(q+1))).length<i0+(q+1); rw [dd]; omega,by show o.take (tM l (i0+(q+1))).length=tM l (i0+(q+1)); rw [dd,q5],fun j hj=>q6 j (by change i0+(q+1)-1<=j at hj; omega)⟩,?_,by show l.length-(q+1)<l.length-q; omega⟩
   (refine xI.same ?_; simp only [xR,Fr.get,simprocAttr,-ZA,zS,dd])
   exact wrap_i64 (by omega)
  ·have dd:tM l (i0+(q+1))= tM l (i0+q)++ [l.getD (i0+q) []]:=by show tM l ((i0+q)+ 1)= _;rw [tM,if_neg (fun c=>hq2 c.2)]
   have dl:(tM l (i0+(q+1))).length=(tM l (i0+q)).length+1:=by rw [dd,List.length_append]; rfl
   simp only [simprocAttr,-ZA,↓zU,↓zD,zV,zT,zW,decide_eq_false hq2,hlk,vP,rS o (show i0+q<o.length by omega),a1]
   (repeat refine sd ?_)
   have c1:(tM l (i0+q)).length<o.length:=by omega
   have eset:(rlu o).set (tM l (i0+q)).length (((rlu o).getD (tM l (i0+q)).length []).set 0 (D.sl 1 (rows .u64 (l.getD (i0+q) []))))= rlu (o.set (tM l (i0+q)).length (l.getD (i0+q) [])):=by rw [rS o c1];exact aD9 _ _ _
   refine⟨(q+1,o.set (tM l (i0+q)).length (l.getD (i0+q) [])),⟨by show 1<=q+1; omega,by show i0+(q+1)<=l.length; omega,by show (o.set _ _).length=_; rw [List.length_set]; exact q3,by show (tM l (i0+(q+1))).length<i0+(q+1); omega,?_,fun j hj=>?_⟩,?_,by show l.length-(q+1)<l.length-q; omega⟩
   ·show (o.set (tM l (i0+q)).length (l.getD (i0+q) [])).take (tM l (i0+(q+1))).length=_;rw [dl,yB (d:=[]) (by rw [List.length_set]; exact c1),aZq,if_pos ⟨rfl,c1⟩,dd,List.take_set_of_le (Nat.le_refl _),q5]
   ·change i0+(q+1)-1<=j at hj;show (o.set (tM l (i0+q)).length (l.getD (i0+q) [])).getD j []=_;rw [aZq,if_neg (by omega)];exact q6 j (by omega)
   ·simp only [pN,eset]
    (refine xI.same ?_; simp only [xR,Fr.get,simprocAttr,-ZA,zS,dl])
    exact⟨wrap_i64 (by omega),wrap_i64 (by omega)⟩
 ·have hd3:¬ ((q:Int)<((l.length-i0:Nat):Int)):=by omega
  have ed:tM l (i0+q)= dedup l:=by unfold dedup; rw [show i0+q=l.length by omega]
  have c0:0<(dedup l).length:=by have:=aRe l (l.length-1);rw [show l.length-1+1=l.length by omega] at this;exact this
  rw [ed] at q4 q5;simp only [simprocAttr,-ZA,↓zU,↓zD,zV,zT,zW,hd3,ed];refine⟨(dedup l).length,l.length,rfl,rfl,by omega,by omega,by omega,?_⟩;rw [if_neg (show ¬ ((dedup l).length:Int)= 0 by omega),if_neg (show ¬ ((dedup l).length:Int)= (l.length:Int) by omega)];simp only [Int.toNat_natCast,hlk,vP,true_and];refine⟨by omega,by omega,?_⟩;refine⟨0,(dedup l).length,rfl,rfl,by omega,by omega,by omega,?_⟩;rw [if_pos rfl];refine .inl ⟨by rw [Int.toNat_natCast],?_⟩;have e2:(rlu o).take (dedup l).length=rlu (dedup l):=by rw [aHi,q5]
  have e3:(rlu o).drop ((dedup l).length+(l.length-(dedup l).length))= []:=List.drop_eq_nil_of_le (by rw [vP]; omega)
  have e4:aE8 l=(rlu o).take (dedup l).length++(List.replicate (l.length-(dedup l).length) [D.xH]++(rlu o).drop ((dedup l).length+(l.length-(dedup l).length))):=by rw [e2,e3,List.append_nil]; rfl
  rw [e4];simp only [pN]
theorem kK (l:List (BitVec 64)):us l=rows .u64 (l.map ui):=by simp [us,rows]
end Go.Pd
