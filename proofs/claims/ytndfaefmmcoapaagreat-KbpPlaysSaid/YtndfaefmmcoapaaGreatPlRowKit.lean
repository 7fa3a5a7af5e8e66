/- Part RowKit. -/
import Derived.Test.YtndfaefmmcoapaaGreatRows
import Derived.Test.YtndfaefmmcoapaaGreatPlKA
import Derived.WalkKit
import Derived.ProofKit
import Derived.OpenShut
set_option linter.unusedSectionVars false
set_option linter.unusedVariables false
set_option linter.unusedSimpArgs false
set_option linter.defProp false
set_option maxRecDepth 20000
set_option maxHeartbeats 1000000
namespace Go.Proofs.YtndfaefmmcoapaaGreat
open Go.ChangeShapes Go.WideShapes Go.ChangeAt Go.RowKit Go.Pd
theorem own : ownKnob Tryz.prog.godebug=none:=by kernel_rfl
theorem laidOut : laidOutB Tryz.prog=true:=by kernel_rfl
theorem PC (W:World):im W fun _=>False:=by
 intro p hp
 simp [tR.nR] at hp
theorem MG {a:D} (s:bE Tryz.prog 8 3 a):∃ w:Int,a = .int .i64 w:=by
 simp only [bE,Tryz.underlying3,wS,List.cons.injEq,and_true] at s
 exact s
section
open Go.Pd.Ru
theorem Ly : Tryz.prog.cellsOf 56=1:=by kernel_rfl
theorem GO {n:Nat} {ds:List D} (s:wS Tryz.prog (n+2) 22 ds) (hf:D.rX ds):∃ l,ds = [.sl 1 (us l)]:=by
 simp only [wS,Tryz.underlying22,Tryz.underlying56,Ly] at s
 obtain⟨xV,rfl,h⟩:=s
 simp only [D.rX,D.fact] at hf
 obtain⟨l,rfl⟩:=NX h hf.1.2
 exact⟨l,rfl⟩
theorem cM : ∀ {a b:List D},D.rX (a++b)->D.rX a/\D.rX b
 | [],b,h=>⟨trivial,h⟩
 | d :: a,b,h=>by
  simp only [List.cons_append,D.rX] at h ⊢
  obtain⟨h1,h2⟩:=cM h.2
  exact⟨⟨h.1,h1⟩,h2⟩
end
section
open Go.Pd.Ru Go.Pd.Fm Go.Pd.Kb
theorem Nx : Tryz.prog.cellsOf 138=6:=by kernel_rfl
theorem Nz : Tryz.prog.cellsOf 74=2:=by kernel_rfl
theorem Q5 : Tryz.prog.cellsOf 72=1:=by kernel_rfl
theorem Nv : Tryz.prog.cellsOf 95=2:=by kernel_rfl
theorem Ny : Tryz.prog.cellsOf 93=1:=by kernel_rfl
theorem GB {n:Nat} {ds:List D} (s:wS Tryz.prog (n+2) 138 ds):∃ p:Nd,ds=p.row:=by
 rw [wS,Tryz.underlying138] at s
 simp only [List.map_cons,List.map_nil,pA] at s
 obtain⟨a1,b1,rfl,s1,a2,b2,rfl,s2,a3,b3,rfl,s3,a4,b4,rfl,s4,a5,b5,rfl,s5,a6,b6,rfl,s6,rfl⟩:=s
 rw [wS,Tryz.underlying3] at s1 s2 s3 s4 s5 s6
 obtain⟨x1,rfl⟩:=s1
 obtain⟨x2,rfl⟩:=s2
 obtain⟨x3,rfl⟩:=s3
 obtain⟨x4,rfl⟩:=s4
 obtain⟨x5,rfl⟩:=s5
 obtain⟨x6,rfl⟩:=s6
 exact⟨⟨x1,x2,x3,x4,x5,x6⟩,rfl⟩
theorem dY {α:Type} {f:α->List D}:∀ {xV:List (List D)},(∀ e ∈ xV,∃ p:α,e=f p)->∃ l:List α,xV=l.map f
 | [],_=>⟨[],rfl⟩
 | e :: r,h=>by
  obtain⟨i,rfl⟩:=h e (by simp)
  obtain⟨l,rfl⟩:=dY (xV:=r) fun e he=>h e (by simp [he])
  exact⟨i :: l,rfl⟩
theorem LC {n:Nat} {ds:List D} (s:wS Tryz.prog (n+3) 58 ds):∃ l:List Nd,ds = [.sl 6 (wP l)]:=by
 rw [wS,Tryz.underlying58] at s
 simp only [Nx] at s
 obtain⟨xV,e,h⟩:=s
 obtain⟨l,rfl⟩:=dY fun e he=>GB (h e he)
 exact⟨l,e⟩
theorem IE {n:Nat} {ds:List D} (s:wS Tryz.prog (n+4) 74 ds):∃ c:bP,ds=c.row:=by
 rw [wS,Tryz.underlying74] at s
 simp only [List.map_cons,List.map_nil,pA] at s
 obtain⟨a,b,rfl,s1,c,d,rfl,s2,rfl⟩:=s
 obtain⟨l,rfl⟩:=LC (n:=n) s1
 rw [wS,Tryz.underlying3] at s2
 obtain⟨m,rfl⟩:=s2
 exact⟨⟨l,m⟩,rfl⟩
theorem IF {n:Nat} {ds:List D} (s:wS Tryz.prog (n+5) 72 ds):∃ l:List bP,ds = [.sl 2 (Zc l)]:=by
 rw [wS,Tryz.underlying72] at s
 simp only [Nz] at s
 obtain⟨xV,e,h⟩:=s
 obtain⟨l,rfl⟩:=dY fun e he=>IE (h e he)
 exact⟨l,e⟩
theorem FF {n:Nat} {ds:List D} (s:wS Tryz.prog (n+6) 24 ds):∃ l:List (List bP),ds = [.sl 1 (uG l)]:=by
 rw [wS,Tryz.underlying24] at s
 simp only [Q5] at s
 obtain⟨xV,e,h⟩:=s
 obtain⟨l,rfl⟩:=dY (f:=fun s=>[D.sl 2 (Zc s)]) fun e he=>IF (h e he)
 exact⟨l,e⟩
theorem GR {n:Nat} {ds:List D} (s:wS Tryz.prog (n+4) 95 ds):∃ c:fQ,ds=c.row:=by
 rw [wS,Tryz.underlying95] at s
 simp only [List.map_cons,List.map_nil,pA] at s
 obtain⟨a,b,rfl,s1,c,d,rfl,s2,rfl⟩:=s
 obtain⟨l,rfl⟩:=LC (n:=n) s2
 rw [wS,Tryz.underlying3] at s1
 obtain⟨m,rfl⟩:=s1
 exact⟨⟨m,l⟩,rfl⟩
theorem KL {n:Nat} {ds:List D} (s:wS Tryz.prog (n+5) 91 ds):∃ l:List fQ,ds = [.sl 2 (j6 l)]:=by
 rw [wS,Tryz.underlying91] at s
 simp only [Nv] at s
 obtain⟨xV,e,h⟩:=s
 obtain⟨l,rfl⟩:=dY fun e he=>GR (h e he)
 exact⟨l,e⟩
theorem Ju {n:Nat} {ds:List D} (s:wS Tryz.prog (n+6) 93 ds):∃ l:List fQ,ds = [.sl 2 (j6 l)]:=by
 rw [wS,Tryz.underlying93] at s
 simp only [List.map_cons,List.map_nil,pA] at s
 obtain⟨a,b,rfl,s1,rfl⟩:=s
 obtain⟨l,rfl⟩:=KL (n:=n) s1
 exact⟨l,rfl⟩
theorem Kd {n:Nat} {ds:List D} (s:wS Tryz.prog (n+7) 23 ds):∃ l:List (List fQ),ds = [.sl 1 (uH l)]:=by
 rw [wS,Tryz.underlying23] at s
 simp only [Ny] at s
 obtain⟨xV,e,h⟩:=s
 obtain⟨l,rfl⟩:=dY (f:=fun s=>[D.sl 2 (j6 s)]) fun e he=>Ju (h e he)
 exact⟨l,e⟩
theorem Ow {M:Nat->Prop} {W:World} {v:Value} {a:D} (h:RP M W v a) (s:bE Tryz.prog 8 26 a):∃ p:yT,a=p.d:=by
 have h1:∃ ds,a = .agg ds/\wS Tryz.prog 8 26 ds:=by
  unfold bE at s
  rw [Tryz.underlying26] at s
  exact s
 obtain⟨ds,rfl,q⟩:=h1
 clear s
 have hf:=h.fact
 simp only [D.fact] at hf
 rw [wS.eq_def] at q
 simp only [Tryz.underlying26] at q
 simp only [List.map_cons,List.map_nil,pA] at q
 obtain⟨a1,b1,rfl,s1,a2,b2,rfl,s2,a3,b3,rfl,s3,a4,b4,rfl,s4,a5,b5,rfl,s5,rfl⟩:=q
 rw [wS,Tryz.underlying3] at s1
 obtain⟨x,rfl⟩:=s1
 obtain⟨h1,hf⟩:=cM hf
 obtain⟨h2,hf⟩:=cM hf
 obtain⟨h3,hf⟩:=cM hf
 obtain⟨y,rfl⟩:=GO (n:=5) s2 h2
 obtain⟨z,rfl⟩:=GO (n:=5) s3 h3
 obtain⟨u,rfl⟩:=Kd (n:=0) s4
 obtain⟨w,rfl⟩:=FF (n:=1) s5
 exact⟨⟨x,y,z,u,w⟩,rfl⟩
end
end Go.Proofs.YtndfaefmmcoapaaGreat
