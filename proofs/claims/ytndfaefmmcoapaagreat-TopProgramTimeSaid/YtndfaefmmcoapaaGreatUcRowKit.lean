/- Part RowKit. -/
import Derived.Test.YtndfaefmmcoapaaGreatRows
import Derived.Test.YtndfaefmmcoapaaGreatUcS1
import Derived.WalkKit
import Derived.ProofKit
import Derived.OpenShut
set_option linter.unusedSectionVars false
set_option linter.unusedVariables false
set_option linter.unusedSimpArgs false
set_option linter.defProp false
set_option maxRecDepth 20000
set_option maxHeartbeats 1000000
namespace Go.Proofs.YtndfaefmmcoapaaGreat
open Go.ChangeShapes Go.WideShapes Go.ChangeAt Go.RowKit Go.Pd
theorem own : ownKnob Tryz.prog.godebug=none:=by kernel_rfl
theorem laidOut : laidOutB Tryz.prog=true:=by kernel_rfl
theorem P3 (W:World):jw W fun _=>False:=by
 intro p hp
 simp [uM.pE] at hp
theorem KL {M:Nat->Prop} {W:World} {v:Value} {a:D} (h:RP M W v a) (s:cV Tryz.prog 8 5 a):∃ n:Nat,n<256/\a = .int .u8 (n:Int):=by
 simp only [cV,Tryz.underlying5,zI,List.cons.injEq,and_true] at s
 obtain⟨n,rfl⟩:=s
 have hf:=h.fact
 simp only [D.fact] at hf
 have e2:IntKind.u8.max=255:=rfl
 have e1:IntKind.u8.min=0:=rfl
 exact⟨n.toNat,by omega,by rw [Int.toNat_of_nonneg (by omega)]⟩
section
open Go.Pd.Ru
theorem Ld : Tryz.prog.cellsOf 56=1:=by kernel_rfl
theorem GN {n:Nat} {ds:List D} (s:zI Tryz.prog (n+2) 22 ds) (hf:D.sZ ds):∃ l,ds = [.sl 1 (us l)]:=by
 simp only [zI,Tryz.underlying22,Tryz.underlying56,Ld] at s
 obtain⟨xV,rfl,h⟩:=s
 simp only [D.sZ,D.fact] at hf
 obtain⟨l,rfl⟩:=NF h hf.1.2
 exact⟨l,rfl⟩
theorem eL : ∀ {a b:List D},D.sZ (a++b)->D.sZ a/\D.sZ b
 | [],b,h=>⟨trivial,h⟩
 | d :: a,b,h=>by
  simp only [List.cons_append,D.sZ] at h ⊢
  obtain⟨h1,h2⟩:=eL h.2
  exact⟨⟨h.1,h1⟩,h2⟩
end
section
open Go.Pd.Ru Go.Pd.Fm Go.Pd.Kb
theorem Nf : Tryz.prog.cellsOf 138=6:=by kernel_rfl
theorem Nb : Tryz.prog.cellsOf 74=2:=by kernel_rfl
theorem Py : Tryz.prog.cellsOf 72=1:=by kernel_rfl
theorem Na : Tryz.prog.cellsOf 95=2:=by kernel_rfl
theorem Nc : Tryz.prog.cellsOf 93=1:=by kernel_rfl
theorem GC {n:Nat} {ds:List D} (s:zI Tryz.prog (n+2) 138 ds):∃ p:Nd,ds=p.row:=by
 rw [zI,Tryz.underlying138] at s
 simp only [List.map_cons,List.map_nil,pT] at s
 obtain⟨a1,b1,rfl,s1,a2,b2,rfl,s2,a3,b3,rfl,s3,a4,b4,rfl,s4,a5,b5,rfl,s5,a6,b6,rfl,s6,rfl⟩:=s
 rw [zI,Tryz.underlying3] at s1 s2 s3 s4 s5 s6
 obtain⟨x1,rfl⟩:=s1
 obtain⟨x2,rfl⟩:=s2
 obtain⟨x3,rfl⟩:=s3
 obtain⟨x4,rfl⟩:=s4
 obtain⟨x5,rfl⟩:=s5
 obtain⟨x6,rfl⟩:=s6
 exact⟨⟨x1,x2,x3,x4,x5,x6⟩,rfl⟩
theorem fH {α:Type} {f:α->List D}:∀ {xV:List (List D)},(∀ e ∈ xV,∃ p:α,e=f p)->∃ l:List α,xV=l.map f
 | [],_=>⟨[],rfl⟩
 | e :: r,h=>by
  obtain⟨i,rfl⟩:=h e (by simp)
  obtain⟨l,rfl⟩:=fH (xV:=r) fun e he=>h e (by simp [he])
  exact⟨i :: l,rfl⟩
theorem Kr {n:Nat} {ds:List D} (s:zI Tryz.prog (n+3) 58 ds):∃ l:List Nd,ds = [.sl 6 (zB l)]:=by
 rw [zI,Tryz.underlying58] at s
 simp only [Nf] at s
 obtain⟨xV,e,h⟩:=s
 obtain⟨l,rfl⟩:=fH fun e he=>GC (h e he)
 exact⟨l,e⟩
theorem Hx {n:Nat} {ds:List D} (s:zI Tryz.prog (n+4) 74 ds):∃ c:aH,ds=c.row:=by
 rw [zI,Tryz.underlying74] at s
 simp only [List.map_cons,List.map_nil,pT] at s
 obtain⟨a,b,rfl,s1,c,d,rfl,s2,rfl⟩:=s
 obtain⟨l,rfl⟩:=Kr (n:=n) s1
 rw [zI,Tryz.underlying3] at s2
 obtain⟨m,rfl⟩:=s2
 exact⟨⟨l,m⟩,rfl⟩
theorem I0 {n:Nat} {ds:List D} (s:zI Tryz.prog (n+5) 72 ds):∃ l:List aH,ds = [.sl 2 (YF l)]:=by
 rw [zI,Tryz.underlying72] at s
 simp only [Nb] at s
 obtain⟨xV,e,h⟩:=s
 obtain⟨l,rfl⟩:=fH fun e he=>Hx (h e he)
 exact⟨l,e⟩
theorem FG {n:Nat} {ds:List D} (s:zI Tryz.prog (n+6) 24 ds):∃ l:List (List aH),ds = [.sl 1 (oA l)]:=by
 rw [zI,Tryz.underlying24] at s
 simp only [Py] at s
 obtain⟨xV,e,h⟩:=s
 obtain⟨l,rfl⟩:=fH (f:=fun s=>[D.sl 2 (YF s)]) fun e he=>I0 (h e he)
 exact⟨l,e⟩
theorem GQ {n:Nat} {ds:List D} (s:zI Tryz.prog (n+4) 95 ds):∃ c:gZ,ds=c.row:=by
 rw [zI,Tryz.underlying95] at s
 simp only [List.map_cons,List.map_nil,pT] at s
 obtain⟨a,b,rfl,s1,c,d,rfl,s2,rfl⟩:=s
 obtain⟨l,rfl⟩:=Kr (n:=n) s2
 rw [zI,Tryz.underlying3] at s1
 obtain⟨m,rfl⟩:=s1
 exact⟨⟨m,l⟩,rfl⟩
theorem Jt {n:Nat} {ds:List D} (s:zI Tryz.prog (n+5) 91 ds):∃ l:List gZ,ds = [.sl 2 (YP l)]:=by
 rw [zI,Tryz.underlying91] at s
 simp only [Na] at s
 obtain⟨xV,e,h⟩:=s
 obtain⟨l,rfl⟩:=fH fun e he=>GQ (h e he)
 exact⟨l,e⟩
theorem JX {n:Nat} {ds:List D} (s:zI Tryz.prog (n+6) 93 ds):∃ l:List gZ,ds = [.sl 2 (YP l)]:=by
 rw [zI,Tryz.underlying93] at s
 simp only [List.map_cons,List.map_nil,pT] at s
 obtain⟨a,b,rfl,s1,rfl⟩:=s
 obtain⟨l,rfl⟩:=Jt (n:=n) s1
 exact⟨l,rfl⟩
theorem KB {n:Nat} {ds:List D} (s:zI Tryz.prog (n+7) 23 ds):∃ l:List (List gZ),ds = [.sl 1 (oB l)]:=by
 rw [zI,Tryz.underlying23] at s
 simp only [Nc] at s
 obtain⟨xV,e,h⟩:=s
 obtain⟨l,rfl⟩:=fH (f:=fun s=>[D.sl 2 (YP s)]) fun e he=>JX (h e he)
 exact⟨l,e⟩
theorem Ol {M:Nat->Prop} {W:World} {v:Value} {a:D} (h:RP M W v a) (s:cV Tryz.prog 8 26 a):∃ p:yA,a=p.d:=by
 have h1:∃ ds,a = .agg ds/\zI Tryz.prog 8 26 ds:=by
  unfold cV at s
  rw [Tryz.underlying26] at s
  exact s
 obtain⟨ds,rfl,q⟩:=h1
 clear s
 have hf:=h.fact
 simp only [D.fact] at hf
 rw [zI.eq_def] at q
 simp only [Tryz.underlying26] at q
 simp only [List.map_cons,List.map_nil,pT] at q
 obtain⟨a1,b1,rfl,s1,a2,b2,rfl,s2,a3,b3,rfl,s3,a4,b4,rfl,s4,a5,b5,rfl,s5,rfl⟩:=q
 rw [zI,Tryz.underlying3] at s1
 obtain⟨x,rfl⟩:=s1
 obtain⟨h1,hf⟩:=eL hf
 obtain⟨h2,hf⟩:=eL hf
 obtain⟨h3,hf⟩:=eL hf
 obtain⟨y,rfl⟩:=GN (n:=5) s2 h2
 obtain⟨z,rfl⟩:=GN (n:=5) s3 h3
 obtain⟨u,rfl⟩:=KB (n:=0) s4
 obtain⟨w,rfl⟩:=FG (n:=1) s5
 exact⟨⟨x,y,z,u,w⟩,rfl⟩
end
end Go.Proofs.YtndfaefmmcoapaaGreat
