/- Part M4. -/
import Derived.Test.YtcniiejbcjijjaaDoorZmM2
import Derived.Test.YtcniiejbcjijjaaDoorZmX6
import Derived.Shelf.SlSortCmp.NoneTotal
set_option linter.unusedSectionVars false
set_option linter.unusedVariables false
set_option linter.unusedSimpArgs false
set_option linter.defProp false
set_option maxRecDepth 20000
set_option maxHeartbeats 1000000
open Go.Proofs.Tryd
open Array renaming getElem?_append_left->γ,getElem?_eq_some_iff->δ,getElem?_modify->ε,ext_getElem?->ζ
open Nat renaming lt_succ_self->η,mul_one->θ,zero_le->κ
namespace Go.Pd
open Go Go.Proofs
open Mg
end Go.Pd

/- Part M5. -/
namespace Go.Pd
open Go Go.Proofs
open BitVec renaming isValue -> ZA
open Mg
theorem gS {n v:Nat} (b:BitVec 64) (hn:n<=4) (hv:v<2 ^ n):yY prog 47 [.int .i64 n,.int .u64 (ui b),.int .i64 v] (.int .i64 (vW n b v)):=by
 refine yP func47 Xm λhf=>?_;have h16:=vK hn;simp only [simprocAttr,-ZA,↓zU,↓zD,zV,zT,zW,xm (show n<=61 by omega)]
 (repeat refine sd ?_)
 refine xO (λk:Nat=>[(12,.int .i64 k),(11,.int .i64 ((2 ^ n:Nat):Int)),(7,.int .i64 (uF (λu=>(vF u v n:Int)) (λu=>b.getLsbD u) n k)),(2,.int .i64 v),(1,.int .u64 (ui b))]) (λ_=>⟨0,[]⟩) (λk=>k<=2 ^ n) (λk=>2 ^ n-k) 0 (κ _) ?_ ?_
 ·(refine zG.same ?_; simp [wR,Fr.get,uF])
 intro k hk;refine yQ mixed ?_;have e0:uF (λu=>(vF u v n:Int)) (λu=>b.getLsbD u) n (k+1)= if b.getLsbD k then min (uF (λu=>(vF u v n:Int)) (λu=>b.getLsbD u) n k) (vF k v n) else uF (λu=>(vF u v n:Int)) (λu=>b.getLsbD u) n k:=rfl
 by_cases h:k<2 ^ n
 ·have hd:((k:Int)<((2 ^ n:Nat):Int)):=by omega
  cases hb:b.getLsbD k
  ·rw [hb] at e0;refine uf hd wH hb ?_;refine⟨k+1,by omega,?_,by omega⟩
   (refine zG.same ?_; simp only [wR,Fr.get,simprocAttr,-ZA,zS,e0])
   first | exact wrap_i64 (by omega) | exact⟨wrap_i64 (by omega),by simp⟩
  ·rw [hb] at e0;have hx:=ot (show k<16 by omega) (show v<16 by omega);simp only [simprocAttr,-ZA,↓zU,↓zD,zV,zT,zW,hd,wH,hb,hx.1,pN (show k ^^^ v<=1000000 by omega)]
   (repeat refine sd ?_)
   refine .go (xU.zI (oa (k:=k ^^^ v) hx.2) rfl) ?_;rw [uz hn h hv];refine pI ?_;refine⟨k+1,by omega,?_,by omega⟩
   (refine zG.same ?_; simp only [wR,Fr.get,simprocAttr,-ZA,zS,e0])
   exact⟨wrap_i64 (by omega),by rw [ak]⟩
 ·have hd:¬ ((k:Int)<((2 ^ n:Nat):Int)):=by omega
  have hk':k=2 ^ n:=by omega
  subst hk';refine yN hd ?_;exact .same
open Mg
theorem xU.l4 {P:Program} {g:FuncId} {args:List D} {σ:St} {len:Nat} {l:List Int} (hc:xU P g args hZ (.yR 0 1 len) ⟨1,[(0,⟨1,rows .i64 l⟩)]⟩) (hp:D.xZ args=true) :
  xU P g args σ (.yR σ.nx 1 len) ⟨σ.nx+1,(σ.nx,⟨1,rows .i64 l⟩) :: σ.xW⟩:=by
 have h:=xU.own (σ:=σ) hc hp
 have e:(rows .i64 l).map (D.yB σ.nx)= rows .i64 l:=by unfold rows;rw [List.map_map];apply List.map_congr_left;intro x _;simp [D.yB,D.shift]
 simpa [wW,Ob.shift,e,D.shift] using h
theorem jx {n:Nat} {p:List (BitVec 64)} {v k:Nat} (h:k<p.length):(xL n p v).getD k 0=vW n (p.getD k 0) v:=by simp [xL,List.getD,h]
theorem zf {n:Nat} {p:List (BitVec 64)} {v k:Nat} (h:k<p.length):(xL n p v).take (k+1)= (xL n p v).take k ++ [vW n (p.getD k 0) v]:=by
 have hl:k<(xL n p v).length:=by rw [tX]; exact h
 rw [List.take_add_one,<- jx (n:=n) (v:=v) h];simp [List.getD,hl]
theorem iB {n v:Nat} (p:List (BitVec 64)) (hn:n<=4) (hv:v<2 ^ n) (hp:p.length<=100) :
  xU prog 29 [.int .i64 n,.sl 1 (us p),.int .i64 v] hZ (.yR 0 1 p.length) ⟨1,[(0,⟨1,rows .i64 (xL n p v)⟩)]⟩:=by
 refine yP func29 XZ λhf=>?_;refine pI ?_
 refine xO (λk:Nat=>[(13,.int .i64 k),(12,.int .i64 p.length),(11,.sl 1 (us p)),(7,.yR 0 1 k),(2,.int .i64 v),(0,.int .i64 n)]) (λk=>⟨1,[(0,⟨1,rows .i64 ((xL n p v).take k)⟩)]⟩) (λk=>k<=p.length) (λk=>p.length-k) 0 (κ _) ?_ ?_
 ·exact tW
 intro k hk;have hl:=tX n p v;refine yQ mixed ?_
 by_cases h:k<p.length
 ·have hd:((k:Int)<(p.length:Int)):=by omega
  have hk2:((xL n p v).take k).length=k:=by rw [List.length_take]; omega
  simp only [simprocAttr,-ZA,↓zU,↓zD,zV,zT,zW,hd,kJ _ h]
  (repeat refine sd ?_)
  refine .go (xU.zI (gS (p.getD k 0) hn hv) rfl) ?_;refine fD hk2 ?_;refine⟨k+1,by omega,?_,by omega⟩;rw [zf h]
  (refine cv [(0,1)] [0] ?_; simp only [zP,zQ,simprocAttr,-ZA,exists_eq_left',ne_eq,zR,hk2,List.take_take,Nat.min_self])
  exact wrap_i64 (by omega)
 ·have hd:¬ ((k:Int)<(p.length:Int)):=by omega
  have hk':k=p.length:=by omega
  refine yN hd ?_;rw [hk',<- hl,List.take_length];exact .same
end Go.Pd

/- Part X7. -/
namespace Go.Pd
open Go Go.Proofs Go.Shelf Go.Sort
variable [zF]
def yM (M:Nat->Prop) (w:World) (C:D->Prop):Type:={ p:Value × D // RP M w p.1 p.2/\p.1.oneCell'=true/\C p.2 }
theorem lG {α:Type} [Inhabited α] (enc:α->Value) (w:World) (blk off m:Nat) (d:Array α) (os:Array Obj) {b:Nat} (hb:b<w.heap.size) (hn:b≠blk):(sortWorld enc w blk off m d os).heap[b]?=w.heap[b]?:=by show (((Sort.ahead w m).heap.modify blk (onCells (putCells enc off d)))++ os)[b]?=_;rw [γ (by simpa using hb),ε,if_neg (λe=>hn e.symm)];rfl
theorem iE {α:Type} [Inhabited α] (enc:α->Value) (w:World) (blk off m:Nat) (d:Array α) (os:Array Obj):w.heap.size<=(sortWorld enc w blk off m d os).heap.size:=by show w.heap.size<=(((Sort.ahead w m).heap.modify blk (onCells (putCells enc off d)))++ os).size;simp [Sort.ahead]
theorem cX {α:Type} [Inhabited α] (enc:α->Value) (w:World) (blk off m:Nat) (d:Array α) (os:Array Obj) {cur:Array Value} {e:TypeId} {fr:Nat × Nat} (hc:w.heap[blk]?=some (Obj.cells cur e fr)) :
  sortWorld enc w blk off m d os=grow ((w.setRow blk (putCells enc off d cur)).drewN m) os:=by
 unfold sortWorld;congr 1;unfold putRow mapBlock Sort.ahead World.drewN World.setRow;congr 1;apply ζ;intro k;simp only [ε]
 by_cases hk:blk=k
 ·subst hk;simp only [if_true,hc,Option.map_some,onCells]
 ·simp [hk]
theorem zo {w w':World} (h:Kept w w' λ_=>False):∃ q os,w'=grow (w.drewN q) os:=by
 refine⟨w'.drawn-w.drawn,w'.heap.extract w.heap.size w'.heap.size,?_⟩;have hd:=h.drawn;have hs:=h.size;obtain⟨heap,tape,drawn,os,output⟩:=w;obtain⟨heap',tape',drawn',os',output'⟩:=w';have h1:=h.os;have h2:=h.tape;have h3:=h.output;have h4:=h.block;simp only at h1 h2 h3 h4 hd hs;subst h1; subst h2; subst h3;unfold grow World.drewN;simp only [World.mk.injEq,and_true,true_and];refine⟨?_,by omega⟩;apply ζ;intro i
 by_cases hi:i<heap.size
 ·rw [γ hi,h4 i hi id]
 ·rw [Array.getElem?_append_right (by omega),Array.getElem?_extract]
  by_cases h2:i<heap'.size
  ·rw [if_pos (by omega)];congr 1; omega
  ·rw [if_neg (by omega)];exact Array.getElem?_eq_none (by omega)
theorem rf {w:World} (q:Nat) (os:Array Obj):Kept w (grow (w.drewN q) os) λ_=>False:=by
 refine⟨rfl,rfl,rfl,by simp [World.drewN],λb hb _=>?_,λb cur e h=>⟨cur,?_,rfl⟩,by show w.drawn<=w.drawn+q; omega⟩
 ·show (w.heap++os)[b]?=_;rw [γ hb]
 ·have hb:b<w.heap.size:=(δ.1 h).1;show (w.heap++os)[b]?=_;rw [γ hb];exact h
def hd (e:List D):D:=e.getD 0 .top
def ur (cf:D->D->Int) (xX:List (List D)):Prop:=∀ i j,i<j->j<xX.length->¬ cf (hd (xX.getD j [])) (hd (xX.getD i []))<0
def yM.enc {M:Nat->Prop} {w:World} {C:D->Prop} (a:yM M w C):Value:=a.1.1
def yM.fE {M:Nat->Prop} {w:World} {C:D->Prop} (a:yM M w C):D:=a.1.2
def yM.cf {M:Nat->Prop} {w:World} {C:D->Prop} (cf:D->D->Int) (a b:yM M w C):Int:=cf a.fE b.fE
theorem wq {α:Type} [Inhabited α] {n:Nat} {p:Nat->α->Prop} (h:∀ i,i<n->∃ a,p i a):∃ d:Array α,d.size=n/\∀ i,i<n->p i d[i]!:=by obtain⟨f,hf⟩:=Deep.choose_lt h;refine⟨((List.range n).map f).toArray,by simp,λi hi=>?_⟩;rw [getElem!_pos _ i (by simpa using hi)];simpa using hf i hi
theorem lU {α:Type} (a:Array α):a.extract 0 a.size=a:=by simp
theorem tf {P:Program} {g:FuncId} {C:D->Prop} {cf:D->D->Int} (hcmp:∀ x y,C x->C y->yY P g [x,y] (.int .i64 (cf x y))) {M0:Nat->Prop} {w:World} {σ:St} {ι:Nat->Nat} (hS:yZ M0 w σ ι) {key:Nat} {ob:Ob} (hget:σ.get key=some ob) (size:Nat) [Inhabited (yM (xJ M0 ι σ) w C)] :
  CmpLays1 P g #[] (yM.enc (M:=xJ M0 ι σ) (w:=w) (C:=C)) (yM.cf cf) (ι key) 0 size w:=by
 intro m os dk hdk x y;have hne:∀ b,¬ xJ M0 ι σ b->b≠ι key:=λb hb e=>hb (.inr ⟨key,ob,hget,e.symm⟩)
 have hM:∀ b,xJ (xJ M0 ι σ) ι hZ b->xJ M0 ι σ b:=by
  rintro b (h | ⟨k,o,hk,_⟩)
  ·exact h
  ·cases hk
 have hsz:=iE yM.enc w (ι key) 0 m dk os;have hblock:∀ b,b<w.heap.size->¬ xJ M0 ι σ b->(sortWorld yM.enc w (ι key) 0 m dk os).heap[b]?=w.heap[b]?:=λb hb hn=>lG yM.enc w (ι key) 0 m dk os hb (hne b hn)
 have S1:yZ (xJ M0 ι σ) (sortWorld yM.enc w (ι key) 0 m dk os) hZ ι:=⟨λb hb=>Nat.lt_of_lt_of_le (xJ.lt hS hb) hsz,(λk o hk=>by cases hk),(λk k' o o' hk=>by cases hk),(λk o hk=>by cases hk),hS.tY.yX hsz hblock λb _ hb=>hM b hb⟩
 have yX:∀ z:yM (xJ M0 ι σ) w C,RP (xJ (xJ M0 ι σ) ι hZ) (sortWorld yM.enc w (ι key) 0 m dk os) z.enc z.fE:=λz=>z.2.1.yX hblock λb _ hb=>hM b hb
 refine((hcmp x.fE y.fE x.2.2.2 y.2.2.2).run _ _ ι (#[x.enc,y.enc] ++ #[]) S1 rfl λj hj=>?_).mono λe w' hh=>?_
 ·match j,hj with
  | 0,_=>exact .pure (yX x)
  | 1,_=>exact .pure (yX y)
 ·obtain⟨v,ι',rfl,k1,k2,k3,k4,k5,k6⟩:=hh;have K0:Kept (sortWorld yM.enc w (ι key) 0 m dk os) w' λ_=>False:=k1.mono λb _ ⟨k,o,hk,_⟩=>by cases hk
  refine⟨?_,zo K0⟩;rw [k6.xN.1];rfl
set_option maxHeartbeats 1000000 in
theorem bU {P:Program} {ρ:Ren} (L:SlLaysF.n6 P ρ) (hord:vU P (ρ.f 6)) {g:FuncId} {C:D->Prop} {cf:D->D->Int}
  (hg:vU P g) (hcmp:∀ x y,C x->C y->yY P g [x,y] (.int .i64 (cf x y)))
  (hirr:∀ x,C x->¬ cf x x<0) (htr:∀ x y z,C x->C y->C z->cf x y<0->cf y z<0->cf x z<0) (hntr:∀ x y z,C x->C y->C z->¬ cf x y<0->¬ cf y z<0->¬ cf x z<0)
  {σ:St} {key:Nat} {xX target:List (List D)} (hget:σ.get key=some ⟨1,xX⟩) (hels:∀ e ∈ xX,∃ d:D,e = [d]/\d.xS=true/\C d) (hlen:xX.length<4611686018427387904) (hne:xX ≠ [])
  (hT:∀ els',els'.Perm xX->ur cf els'->els'=target) :
  xU P (ρ.f 6) [.yR key 1 xX.length,.fn g []] σ (.yK []) (σ.set key ⟨1,target⟩):=by
 refine⟨hord,λM0 w ι vals hS hl hv=>?_⟩;have h0:=hv 0 (by simp);have h1:=hv 1 (by simp);simp only [List.getD_cons_zero,List.getD_cons_succ] at h0 h1;obtain⟨cap,cur0,e0,e1,kk,a1,a2,a3,a4⟩:=h0.wY;obtain⟨cb,f1,f2,f3⟩:=h1.pD;have hcb:cb = #[]:=Array.eq_empty_of_size_eq_zero (by simpa using f2);subst hcb
 have hvals:vals = #[.slice (some ⟨ι key,0,none⟩) xX.length cap,.func (.func g) #[] #[]]:=by
  obtain⟨l⟩:=vals
  match l,hl with
  | [x,y],_=> simp at e1 f1;rw [e1,f1]
 subst hvals;clear h0 h1 hv e1 f1 f2 f3 hl;have hk:=(hS.holds key _ hget).1;obtain⟨cur,e,c1,c2,c3,c4⟩:=xQ.cells (hS.holds key _ hget).2 (η 0);simp only [θ] at c3
 have cell:∀ i,i<xX.length->∃ a:yM (xJ M0 ι σ) w C,a.enc=cur.getD i undef/\xX.getD i [] = [a.fE]:=by
  intro i hi;have hm:xX.getD i [] ∈ xX:=by simp [List.getD,hi]
  obtain⟨d,hd,hp,hc⟩:=hels _ hm;have h:=c4 i hi 0 (η 0);simp only [θ,Nat.add_zero] at h;rw [hd] at h;exact⟨⟨(cur.getD i undef,d),h.2.kW hp,h.1,hc⟩,rfl,hd⟩
 have hpos:0<xX.length:=List.length_pos_iff.2 hne;obtain⟨a0,_⟩:=cell 0 hpos
 haveI:Inhabited (yM (xJ M0 ι σ) w C):=⟨a0⟩
 obtain⟨d,hds,hdi⟩:=wq cell
 have hO:SWO (ltOf (yM.cf (M:=xJ M0 ι σ) (w:=w) (C:=C) cf)):=by
  exact⟨λx=>decide_eq_false (hirr x.fE x.2.2.2),λx y z h1 h2=>decide_eq_true (htr x.fE y.fE z.fE x.2.2.2 y.2.2.2 z.2.2.2 (of_decide_eq_true h1) (of_decide_eq_true h2)),
   λx y z h1 h2=>decide_eq_false (hntr x.fE y.fE z.fE x.2.2.2 y.2.2.2 z.2.2.2 (of_decide_eq_false h1) (of_decide_eq_false h2))⟩
 have hH:Holds yM.enc w (ι key) 0 d:=by
  intro j hj;have hj':j<xX.length:=by omega
  have hjc:j<cur.size:=by omega
  refine⟨?_,?_⟩
  ·rw [(hdi j hj').1];simp [World.cell?,c1,Array.getD,hjc]
  ·simp [World.frozen?,c1]
 have hcall:=Any.slices_SortFunc L (yM.enc (M:=xJ M0 ι σ) (w:=w) (C:=C)) (λx=>x.2.2.1) (yM.cf cf) hO g #[] (ι key) 0 cap d w (λargs w=>rP hg args w) (tf hcmp hS hget d.size) hH (δ.1 c1).1 (by omega);rw [hds] at hcall;refine hcall.mono λe' w' hh=>?_;obtain⟨rfl,d',n,os,hp,hs,rfl⟩:=hh;rw [<- hds] at hp hs;have hsz:d'.size=d.size:=hp.1
 have e1:d.toList.map (λa=>[a.fE])= xX:=by refine List.ext_getElem (by simpa using hds) λi h1 h2=>?_;have:=(hdi i h2).2;rw [getElem!_pos d i (by omega)] at this;simp only [List.getElem_map,Array.getElem_toList];simp only [List.getD,List.getElem?_eq_getElem h2,Option.getD_some] at this;exact this.symm
 have hperm:(d'.toList.map λa=>[a.fE]).Perm xX:=by
  rw [<- e1];have:=hp.2.2;rw [<- hsz] at this;conv at this=>lhs; rw [lU d']
  rw [hsz,lU d] at this;exact this.map _
 have hgd:∀ i,i<d'.size->hd ((d'.toList.map λa=>[a.fE]).getD i [])= (d'[i]!).fE:=by intro i hi;rw [getElem!_pos d' i hi];simp [hd,List.getD,hi]
 have hsort:ur cf (d'.toList.map λa=>[a.fE]):=by
  intro i j hij hj;have hj':j<d'.size:=by simpa using hj
  rw [hgd j hj',hgd i (by omega)];have:=hs i j (κ _) hij (by omega);exact of_decide_eq_false this
 have htarget:=hT _ hperm hsort;have htl:target.length=xX.length:=by rw [<- htarget]; exact hperm.length_eq
 rw [cX _ _ _ _ _ _ _ c1];have hcs:(putCells yM.enc 0 d' cur).size=cur.size:=by simp [putCells]
 obtain⟨S2,K2⟩:=hS.set (ob':=⟨1,target⟩) hget c1 hcs (η 0) (by simp only [θ]; omega) ⟨λel he=>by
   rw [<- htarget] at he;simp only [List.mem_map] at he;obtain⟨a,_,rfl⟩:=he;rfl,λi hi j hj=>by
   have hj0:j=0:=by simp only at hj; omega
   subst hj0;simp only [θ,Nat.add_zero];have hi':i<d'.size:=by simp only at hi; omega
   have hic:i<cur.size:=by omega
   have ev:(putCells yM.enc 0 d' cur).getD i undef=(d'[i]!).enc:=by simp [putCells,Array.getD,hic,hi']
   have ed:(target.getD i []).getD 0 .top=(d'[i]!).fE:=by rw [<- htarget]; exact hgd i hi'
   rw [ev,ed];exact⟨(d'[i]!).2.2.1,.pure (d'[i]!).2.1⟩⟩
 have K3:=rf (w:=w.setRow (ι key) (putCells yM.enc 0 d' cur)) n os;refine⟨.tuple #[],ι,rfl,K2.trans K3 (λ_ _ h=>h) (λ_ _ h=>h.elim),S2.ext K3,Nat.le_refl _,λ_ _=>rfl,λk o hk=>?_,.yK rfl (λj hj=>by simp at hj)⟩
 by_cases ek:k=key
 ·subst ek; exact .inr ⟨k,_,hget,rfl⟩
 ·refine .inr ⟨k,o,?_,rfl⟩;rw [zX,if_neg (λe=>ek e.symm)] at hk;exact hk
end Go.Pd
