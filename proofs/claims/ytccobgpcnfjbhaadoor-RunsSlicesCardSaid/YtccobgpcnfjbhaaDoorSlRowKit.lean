/- Part RowKit. -/
import Derived.Test.YtccobgpcnfjbhaaDoorCards
import Derived.Test.YtccobgpcnfjbhaaDoorTie
import Derived.Test.YtccobgpcnfjbhaaDoorSlLS
import Derived.WalkKit
import Derived.ProofKit
import Derived.OpenShut
import Derived.Deep.DeepHandedRow
import Derived.Lib.LaidTab
set_option linter.unusedSectionVars false
set_option linter.unusedVariables false
set_option linter.unusedSimpArgs false
set_option linter.defProp false
set_option maxRecDepth 20000
set_option maxHeartbeats 1000000
namespace Go.Proofs.YtccobgpcnfjbhaaDoor
open Go.ChangeShapes Go.WideShapes Go.ChangeAt Go.RowKit Go.Pd Go.Pd.Ru
theorem own : ownKnob Tryd.prog.godebug=none:=by kernel_rfl
theorem laidOut : laidOutB Tryd.prog=true:=by kernel_rfl
theorem s7 : Tryd.prog.globalNamed "math/bits.deBruijn64tab"=some 0:=by kernel_rfl
theorem ki : (Tryd.prog.globals[0]?).map (·.type)= some 87:=by kernel_rfl
theorem kd : Tryd.prog.cellsOf 87=64:=by kernel_rfl
theorem ae : Tryd.prog.cellsOf 5=1:=by kernel_rfl
def xl : List Int:=Lib.deBruijn64tab.map fun(n:Nat)=>(n:Int)
theorem nu : xl.length=64:=by kernel_rfl
theorem table {W:World} (h:laidMetH Tryd.prog [("math/bits.deBruijn64tab",Rows.laid_math_bits_deBruijn64tab)] W):Lib.TabIs Tryd.prog W "math/bits.deBruijn64tab" .u8 xl:=
 Lib.tabIs_of_head (rest:=[]) s7 ki Tryd.underlying87 Tryd.underlying5 ae kd h
theorem jb {W:World} (h:laidMetH Tryd.prog [("math/bits.deBruijn64tab",Rows.laid_math_bits_deBruijn64tab)] W):gC W fun _=>False:=by
 intro p hp
 simp only [zJ.tW,List.mem_singleton] at hp
 subst hp
 have cell:∀ i,i<xl.length->W.cell? ⟨0,i,none⟩= some (.int .u8 (xl.getD i 0)):=fun i hi=>(table h).cell s7 i hi
 refine⟨mV (cell 0 (by rw [nu]; omega)),fun h=>h,fun j v hv=>?_⟩
 simp only [List.getElem?_map,Option.map_eq_some_iff] at hv
 obtain⟨n,hn,rfl⟩:=hv
 have hj:j<Lib.deBruijn64tab.length:=(List.getElem?_eq_some_iff.1 hn).1
 rw [cell j (by unfold xl; simpa using hj)]
 simp [xl,List.getD,hn]
theorem ab : Tryd.prog.cellsOf 3=1:=by kernel_rfl
theorem fv : Tryd.prog.cellsOf 43=1:=by kernel_rfl
theorem ft : Tryd.prog.cellsOf 40=1:=by kernel_rfl
theorem fw : Tryd.prog.cellsOf 53=2:=by kernel_rfl
theorem n6 {M:Nat->Prop} {W:World} {v:Value} {a:D} (h:RP M W v a) (s:nU Tryd.prog 8 5 a):∃ n:Nat,n<256/\a = .int .u8 (n:Int):=by
 simp only [nU,Tryd.underlying5,yA,List.cons.injEq,and_true] at s
 obtain⟨n,rfl⟩:=s
 have hf:=h.fact
 simp only [D.fact] at hf
 have e2:IntKind.u8.max=255:=rfl
 have e1:IntKind.u8.min=0:=rfl
 exact⟨n.toNat,by omega,by rw [Int.toNat_of_nonneg (by omega)]⟩
theorem vl : ∀ {xX:List (List D)},(∀ e ∈ xX,∃ i:Int,e = [.int .i64 i])->∃ l,xX=rows .i64 l
 | [],_=>⟨[],rfl⟩
 | e :: r,h=>by
  obtain⟨i,rfl⟩:=h e (by simp)
  obtain⟨l,rfl⟩:=vl (xX:=r) fun e he=>h e (by simp [he])
  exact⟨i :: l,rfl⟩
theorem ZW {n:Nat} {ds:List D} (s:yA Tryd.prog (n+2) 43 ds):∃ l,ds = [.sl 1 (rows .i64 l)]:=by
 simp only [yA,Tryd.underlying43,Tryd.underlying3,ab] at s
 obtain⟨xX,rfl,h⟩:=s
 obtain⟨l,rfl⟩:=vl h
 exact⟨l,rfl⟩
theorem en : ∀ {xX:List (List D)},(∀ e ∈ xX,∃ l,e = [.sl 1 (rows .i64 l)])->∃ l,xX=rl l
 | [],_=>⟨[],rfl⟩
 | e :: r,h=>by
  obtain⟨i,rfl⟩:=h e (by simp)
  obtain⟨l,rfl⟩:=en (xX:=r) fun e he=>h e (by simp [he])
  exact⟨i :: l,rfl⟩
theorem Ye {n:Nat} {ds:List D} (s:yA Tryd.prog (n+3) 51 ds):∃ l,ds = [.sl 1 (rl l)]:=by
 rw [yA,Tryd.underlying51] at s
 simp only [fv] at s
 obtain⟨xX,rfl,h⟩:=s
 obtain⟨l,rfl⟩:=en fun e he=>ZW (n:=n) (h e he)
 exact⟨l,rfl⟩
theorem YA {n:Nat} {ds:List D} (s:yA Tryd.prog (n+2) 28 ds) (hf:D.vU ds):∃ l,ds = [.sl 1 (us l)]:=by
 simp only [yA,Tryd.underlying28,Tryd.underlying40,ft] at s
 obtain⟨xX,rfl,h⟩:=s
 simp only [D.vU,D.fact] at hf
 obtain⟨l,rfl⟩:=eu h hf.1.2
 exact⟨l,rfl⟩
theorem lE : ∀ {a b:List D},D.vU (a++b)->D.vU a/\D.vU b
 | [],b,h=>⟨trivial,h⟩
 | d :: a,b,h=>by
  simp only [List.cons_append,D.vU] at h ⊢
  obtain⟨h1,h2⟩:=lE h.2
  exact⟨⟨h.1,h1⟩,h2⟩
theorem Yk {n:Nat} {ds:List D} (s:yA Tryd.prog (n+4) 53 ds) (hf:D.vU ds):∃ r:xG,ds=r.row:=by
 rw [yA,Tryd.underlying53] at s
 simp only [List.map_cons,List.map_nil,tC] at s
 obtain⟨a,b,rfl,s1,c,d,rfl,s2,rfl⟩:=s
 obtain⟨_,h2⟩:=lE hf
 obtain⟨l,rfl⟩:=Ye (n:=n) s1
 obtain⟨m,rfl⟩:=YA (n:=n+1) s2 (lE h2).1
 exact⟨⟨l,m⟩,rfl⟩
theorem aZ : ∀ {xX:List (List D)},D.gD xX->∀ e ∈ xX,D.vU e
 | [],_,e,he=>by cases he
 | x :: r,h,e,he=>by
  simp only [D.gD] at h
  rcases List.mem_cons.1 he with rfl | he
  ·exact h.1
  ·exact aZ h.2 e he
theorem vo : ∀ {xX:List (List D)},(∀ e ∈ xX,∃ r:xG,e=r.row)->∃ l,xX=yL l
 | [],_=>⟨[],rfl⟩
 | e :: r,h=>by
  obtain⟨i,rfl⟩:=h e (by simp)
  obtain⟨l,rfl⟩:=vo (xX:=r) fun e he=>h e (by simp [he])
  exact⟨i :: l,rfl⟩
theorem bf {M:Nat->Prop} {W:World} {v:Value} {a:D} (h:RP M W v a) (s:nU Tryd.prog 8 24 a):∃ s:vT,a=s.d:=by
 have h1:∃ ds,a = .agg ds/\yA Tryd.prog 8 24 ds:=by
  unfold nU at s
  rw [Tryd.underlying24] at s
  exact s
 obtain⟨ds,rfl,q⟩:=h1
 clear s
 have hf:=h.fact
 simp only [D.fact] at hf
 rw [yA.eq_def] at q
 simp only [Tryd.underlying24] at q
 simp only [List.map_cons,List.map_nil,tC] at q
 obtain⟨a1,b1,rfl,s1,a2,b2,rfl,s2,a3,b3,rfl,s3,a4,b4,rfl,s4,rfl⟩:=q
 simp only [yA,Tryd.underlying3] at s1 s2 s3
 obtain⟨x,rfl⟩:=s1
 obtain⟨y,rfl⟩:=s2
 obtain⟨z,rfl⟩:=s3
 rw [yA.eq_def] at s4
 simp only [Tryd.underlying22,fw] at s4
 obtain⟨xX,rfl,h4⟩:=s4
 simp only [List.cons_append,List.nil_append,List.append_nil,D.vU,D.fact] at hf
 obtain⟨l,rfl⟩:=vo fun e he=>Yk (n:=2) (h4 e he) (aZ hf.2.2.2.1.2 e he)
 exact⟨⟨x,y,z,l⟩,rfl⟩
noncomputable def lG (os:Os):World:=
 { World.holding Tryd.prog os ⟨#[],#[],[]⟩ with heap:=(World.holding Tryd.prog os ⟨#[],#[],[]⟩).heap.modify 0 fun
   | .cells _ t frozen=>.cells (xl.map fun n=>Value.int .u8 n).toArray t frozen
   | o=>o }
end Go.Proofs.YtccobgpcnfjbhaaDoor
