/- Part RowKit. -/
import Derived.Test.YtndfaefmmcoapaaGreatRows
import Derived.Test.YtndfaefmmcoapaaGreatUdKB
import Derived.WalkKit
import Derived.ProofKit
import Derived.OpenShut
set_option linter.unusedSectionVars false
set_option linter.unusedVariables false
set_option linter.unusedSimpArgs false
set_option linter.defProp false
set_option maxRecDepth 20000
set_option maxHeartbeats 1000000
namespace Go.Proofs.YtndfaefmmcoapaaGreat
open Go.ChangeShapes Go.WideShapes Go.ChangeAt Go.RowKit Go.Pd
theorem own : ownKnob Tryz.prog.godebug=none:=by kernel_rfl
theorem laidOut : laidOutB Tryz.prog=true:=by kernel_rfl
theorem aBo (W:World):aQ9 W fun _=>False:=by
 intro p hp
 simp [sC.kB] at hp
theorem bUh {M:Nat->Prop} {W:World} {v:Value} {a:D} (h:RP M W v a) (s:iR Tryz.prog 8 5 a):∃ n:Nat,n<256/\a = .int .u8 (n:Int):=by
 simp only [iR,Tryz.underlying5,zX,List.cons.injEq,and_true] at s
 obtain⟨n,rfl⟩:=s
 have hf:=h.fact
 simp only [D.fact] at hf
 have e2:IntKind.u8.max=255:=rfl
 have e1:IntKind.u8.min=0:=rfl
 exact⟨n.toNat,by omega,by rw [Int.toNat_of_nonneg (by omega)]⟩
section
open Go.Pd.Ru
theorem bW7 : Tryz.prog.cellsOf 56=1:=by kernel_rfl
theorem usC {n:Nat} {ds:List D} (s:zX Tryz.prog (n+2) 22 ds) (hf:D.rG ds):∃ l,ds = [.sl 1 (us l)]:=by
 simp only [zX,Tryz.underlying22,Tryz.underlying56,bW7] at s
 obtain⟨els,rfl,h⟩:=s
 simp only [D.rG,D.fact] at hf
 obtain⟨l,rfl⟩:=bZd h hf.1.2
 exact⟨l,rfl⟩
theorem kT : ∀ {a b:List D},D.rG (a++b)->D.rG a/\D.rG b
 | [],b,h=>⟨trivial,h⟩
 | d :: a,b,h=>by
  simp only [List.cons_append,D.rG] at h ⊢
  obtain⟨h1,h2⟩:=kT h.2
  exact⟨⟨h.1,h1⟩,h2⟩
end
section
open Go.Pd.Ru Go.Pd.Fm Go.Pd.Kb
theorem bXo : Tryz.prog.cellsOf 138=6:=by kernel_rfl
theorem bXq : Tryz.prog.cellsOf 74=2:=by kernel_rfl
theorem aE0 : Tryz.prog.cellsOf 72=1:=by kernel_rfl
theorem bXr : Tryz.prog.cellsOf 95=2:=by kernel_rfl
theorem bXp : Tryz.prog.cellsOf 93=1:=by kernel_rfl
theorem ndC {n:Nat} {ds:List D} (s:zX Tryz.prog (n+2) 138 ds):∃ p:Nd,ds=p.row:=by
 rw [zX,Tryz.underlying138] at s
 simp only [List.map_cons,List.map_nil,pM] at s
 obtain⟨a1,b1,rfl,s1,a2,b2,rfl,s2,a3,b3,rfl,s3,a4,b4,rfl,s4,a5,b5,rfl,s5,a6,b6,rfl,s6,rfl⟩:=s
 rw [zX,Tryz.underlying3] at s1 s2 s3 s4 s5 s6
 obtain⟨x1,rfl⟩:=s1
 obtain⟨x2,rfl⟩:=s2
 obtain⟨x3,rfl⟩:=s3
 obtain⟨x4,rfl⟩:=s4
 obtain⟨x5,rfl⟩:=s5
 obtain⟨x6,rfl⟩:=s6
 exact⟨⟨x1,x2,x3,x4,x5,x6⟩,rfl⟩
theorem jQ {α:Type} {f:α->List D}:∀ {els:List (List D)},(∀ e ∈ els,∃ p:α,e=f p)->∃ l:List α,els=l.map f
 | [],_=>⟨[],rfl⟩
 | e :: r,h=>by
  obtain⟨i,rfl⟩:=h e (by simp)
  obtain⟨l,rfl⟩:=jQ (els:=r) fun e he=>h e (by simp [he])
  exact⟨i :: l,rfl⟩
theorem bVy {n:Nat} {ds:List D} (s:zX Tryz.prog (n+3) 58 ds):∃ l:List Nd,ds = [.sl 6 (ndR l)]:=by
 rw [zX,Tryz.underlying58] at s
 simp only [bXo] at s
 obtain⟨els,e,h⟩:=s
 obtain⟨l,rfl⟩:=jQ fun e he=>ndC (h e he)
 exact⟨l,e⟩
theorem bWn {a:D} (s:iR Tryz.prog 8 58 a):∃ l:List Nd,a = .sl 6 (ndR l):=by
 have h:zX Tryz.prog 8 58 [a]:=by
  unfold iR at s
  rw [Tryz.underlying58] at s
  exact s
 obtain⟨l,e⟩:=bVy (n:=5) h
 exact⟨l,by simpa using e⟩
theorem bQb {n:Nat} {ds:List D} (s:zX Tryz.prog (n+4) 74 ds):∃ c:ClA,ds=c.row:=by
 rw [zX,Tryz.underlying74] at s
 simp only [List.map_cons,List.map_nil,pM] at s
 obtain⟨a,b,rfl,s1,c,d,rfl,s2,rfl⟩:=s
 obtain⟨l,rfl⟩:=bVy (n:=n) s1
 rw [zX,Tryz.underlying3] at s2
 obtain⟨m,rfl⟩:=s2
 exact⟨⟨l,m⟩,rfl⟩
theorem bQa {n:Nat} {ds:List D} (s:zX Tryz.prog (n+5) 72 ds):∃ l:List ClA,ds = [.sl 2 (clR l)]:=by
 rw [zX,Tryz.underlying72] at s
 simp only [bXq] at s
 obtain⟨els,e,h⟩:=s
 obtain⟨l,rfl⟩:=jQ fun e he=>bQb (h e he)
 exact⟨l,e⟩
theorem cdC {n:Nat} {ds:List D} (s:zX Tryz.prog (n+6) 24 ds):∃ l:List (List ClA),ds = [.sl 1 (cdR l)]:=by
 rw [zX,Tryz.underlying24] at s
 simp only [aE0] at s
 obtain⟨els,e,h⟩:=s
 obtain⟨l,rfl⟩:=jQ (f:=fun s=>[D.sl 2 (clR s)]) fun e he=>bQa (h e he)
 exact⟨l,e⟩
theorem bOv {n:Nat} {ds:List D} (s:zX Tryz.prog (n+4) 95 ds):∃ c:AsA,ds=c.row:=by
 rw [zX,Tryz.underlying95] at s
 simp only [List.map_cons,List.map_nil,pM] at s
 obtain⟨a,b,rfl,s1,c,d,rfl,s2,rfl⟩:=s
 obtain⟨l,rfl⟩:=bVy (n:=n) s2
 rw [zX,Tryz.underlying3] at s1
 obtain⟨m,rfl⟩:=s1
 exact⟨⟨m,l⟩,rfl⟩
theorem bU4 {n:Nat} {ds:List D} (s:zX Tryz.prog (n+5) 91 ds):∃ l:List AsA,ds = [.sl 2 (asR l)]:=by
 rw [zX,Tryz.underlying91] at s
 simp only [bXr] at s
 obtain⟨els,e,h⟩:=s
 obtain⟨l,rfl⟩:=jQ fun e he=>bOv (h e he)
 exact⟨l,e⟩
theorem bTr {n:Nat} {ds:List D} (s:zX Tryz.prog (n+6) 93 ds):∃ l:List AsA,ds = [.sl 2 (asR l)]:=by
 rw [zX,Tryz.underlying93] at s
 simp only [List.map_cons,List.map_nil,pM] at s
 obtain⟨a,b,rfl,s1,rfl⟩:=s
 obtain⟨l,rfl⟩:=bU4 (n:=n) s1
 exact⟨l,rfl⟩
theorem bUs {n:Nat} {ds:List D} (s:zX Tryz.prog (n+7) 23 ds):∃ l:List (List AsA),ds = [.sl 1 (mvR l)]:=by
 rw [zX,Tryz.underlying23] at s
 simp only [bXp] at s
 obtain⟨els,e,h⟩:=s
 obtain⟨l,rfl⟩:=jQ (f:=fun s=>[D.sl 2 (asR s)]) fun e he=>bTr (h e he)
 exact⟨l,e⟩
theorem aB0 {M:Nat->Prop} {W:World} {v:Value} {a:D} (h:RP M W v a) (s:iR Tryz.prog 8 26 a):∃ p:PrA,a=p.d:=by
 have h1:∃ ds,a = .agg ds/\zX Tryz.prog 8 26 ds:=by
  unfold iR at s
  rw [Tryz.underlying26] at s
  exact s
 obtain⟨ds,rfl,q⟩:=h1
 clear s
 have hf:=h.fact
 simp only [D.fact] at hf
 rw [zX.eq_def] at q
 simp only [Tryz.underlying26] at q
 simp only [List.map_cons,List.map_nil,pM] at q
 obtain⟨a1,b1,rfl,s1,a2,b2,rfl,s2,a3,b3,rfl,s3,a4,b4,rfl,s4,a5,b5,rfl,s5,rfl⟩:=q
 rw [zX,Tryz.underlying3] at s1
 obtain⟨x,rfl⟩:=s1
 obtain⟨h1,hf⟩:=kT hf
 obtain⟨h2,hf⟩:=kT hf
 obtain⟨h3,hf⟩:=kT hf
 obtain⟨y,rfl⟩:=usC (n:=5) s2 h2
 obtain⟨z,rfl⟩:=usC (n:=5) s3 h3
 obtain⟨u,rfl⟩:=bUs (n:=0) s4
 obtain⟨w,rfl⟩:=cdC (n:=1) s5
 exact⟨⟨x,y,z,u,w⟩,rfl⟩
end
end Go.Proofs.YtndfaefmmcoapaaGreat
