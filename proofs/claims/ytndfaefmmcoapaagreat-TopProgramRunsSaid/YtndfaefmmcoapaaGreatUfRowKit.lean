/- Part RowKit. -/
import Derived.Test.YtndfaefmmcoapaaGreatRows
import Derived.Test.YtndfaefmmcoapaaGreatUfP7
import Derived.WalkKit
import Derived.ProofKit
import Derived.OpenShut
set_option linter.unusedSectionVars false
set_option linter.unusedVariables false
set_option linter.unusedSimpArgs false
set_option linter.defProp false
set_option maxRecDepth 20000
set_option maxHeartbeats 1000000
namespace Go.Proofs.YtndfaefmmcoapaaGreat
open Go.ChangeShapes Go.WideShapes Go.ChangeAt Go.RowKit Go.Pd
theorem own : ownKnob Tryz.prog.godebug=none:=by kernel_rfl
theorem laidOut : laidOutB Tryz.prog=true:=by kernel_rfl
theorem Ov (W:World):jn W fun _=>False:=by
 intro p hp
 simp [uC.pE] at hp
theorem K8 {M:Nat->Prop} {W:World} {v:Value} {a:D} (h:RP M W v a) (s:cL Tryz.prog 8 5 a):∃ n:Nat,n<256/\a = .int .u8 (n:Int):=by
 simp only [cL,Tryz.underlying5,zF,List.cons.injEq,and_true] at s
 obtain⟨n,rfl⟩:=s
 have hf:=h.fact
 simp only [D.fact] at hf
 have e2:IntKind.u8.max=255:=rfl
 have e1:IntKind.u8.min=0:=rfl
 exact⟨n.toNat,by omega,by rw [Int.toNat_of_nonneg (by omega)]⟩
section
open Go.Pd.Ru
theorem LP : Tryz.prog.cellsOf 56=1:=by kernel_rfl
theorem FY {n:Nat} {ds:List D} (s:zF Tryz.prog (n+2) 22 ds) (hf:D.rJ ds):∃ l,ds = [.sl 1 (us l)]:=by
 simp only [zF,Tryz.underlying22,Tryz.underlying56,LP] at s
 obtain⟨xV,rfl,h⟩:=s
 simp only [D.rJ,D.fact] at hf
 obtain⟨l,rfl⟩:=N7 h hf.1.2
 exact⟨l,rfl⟩
theorem eI : ∀ {a b:List D},D.rJ (a++b)->D.rJ a/\D.rJ b
 | [],b,h=>⟨trivial,h⟩
 | d :: a,b,h=>by
  simp only [List.cons_append,D.rJ] at h ⊢
  obtain⟨h1,h2⟩:=eI h.2
  exact⟨⟨h.1,h1⟩,h2⟩
end
section
open Go.Pd.Ru Go.Pd.Fm Go.Pd.Kb
theorem NY : Tryz.prog.cellsOf 138=6:=by kernel_rfl
theorem NW : Tryz.prog.cellsOf 74=2:=by kernel_rfl
theorem Pu : Tryz.prog.cellsOf 72=1:=by kernel_rfl
theorem NV : Tryz.prog.cellsOf 95=2:=by kernel_rfl
theorem NZ : Tryz.prog.cellsOf 93=1:=by kernel_rfl
theorem FQ {n:Nat} {ds:List D} (s:zF Tryz.prog (n+2) 138 ds):∃ p:Nd,ds=p.row:=by
 rw [zF,Tryz.underlying138] at s
 simp only [List.map_cons,List.map_nil,pR] at s
 obtain⟨a1,b1,rfl,s1,a2,b2,rfl,s2,a3,b3,rfl,s3,a4,b4,rfl,s4,a5,b5,rfl,s5,a6,b6,rfl,s6,rfl⟩:=s
 rw [zF,Tryz.underlying3] at s1 s2 s3 s4 s5 s6
 obtain⟨x1,rfl⟩:=s1
 obtain⟨x2,rfl⟩:=s2
 obtain⟨x3,rfl⟩:=s3
 obtain⟨x4,rfl⟩:=s4
 obtain⟨x5,rfl⟩:=s5
 obtain⟨x6,rfl⟩:=s6
 exact⟨⟨x1,x2,x3,x4,x5,x6⟩,rfl⟩
theorem eX {α:Type} {f:α->List D}:∀ {xV:List (List D)},(∀ e ∈ xV,∃ p:α,e=f p)->∃ l:List α,xV=l.map f
 | [],_=>⟨[],rfl⟩
 | e :: r,h=>by
  obtain⟨i,rfl⟩:=h e (by simp)
  obtain⟨l,rfl⟩:=eX (xV:=r) fun e he=>h e (by simp [he])
  exact⟨i :: l,rfl⟩
theorem Kh {n:Nat} {ds:List D} (s:zF Tryz.prog (n+3) 58 ds):∃ l:List Nd,ds = [.sl 6 (zG l)]:=by
 rw [zF,Tryz.underlying58] at s
 simp only [NY] at s
 obtain⟨xV,e,h⟩:=s
 obtain⟨l,rfl⟩:=eX fun e he=>FQ (h e he)
 exact⟨l,e⟩
theorem Hc {n:Nat} {ds:List D} (s:zF Tryz.prog (n+4) 74 ds):∃ c:eC,ds=c.row:=by
 rw [zF,Tryz.underlying74] at s
 simp only [List.map_cons,List.map_nil,pR] at s
 obtain⟨a,b,rfl,s1,c,d,rfl,s2,rfl⟩:=s
 obtain⟨l,rfl⟩:=Kh (n:=n) s1
 rw [zF,Tryz.underlying3] at s2
 obtain⟨m,rfl⟩:=s2
 exact⟨⟨l,m⟩,rfl⟩
theorem Hd {n:Nat} {ds:List D} (s:zF Tryz.prog (n+5) 72 ds):∃ l:List eC,ds = [.sl 2 (r8 l)]:=by
 rw [zF,Tryz.underlying72] at s
 simp only [NW] at s
 obtain⟨xV,e,h⟩:=s
 obtain⟨l,rfl⟩:=eX fun e he=>Hc (h e he)
 exact⟨l,e⟩
theorem Eh {n:Nat} {ds:List D} (s:zF Tryz.prog (n+6) 24 ds):∃ l:List (List eC),ds = [.sl 1 (qZ l)]:=by
 rw [zF,Tryz.underlying24] at s
 simp only [Pu] at s
 obtain⟨xV,e,h⟩:=s
 obtain⟨l,rfl⟩:=eX (f:=fun s=>[D.sl 2 (r8 s)]) fun e he=>Hd (h e he)
 exact⟨l,e⟩
theorem Fc {n:Nat} {ds:List D} (s:zF Tryz.prog (n+4) 95 ds):∃ c:gQ,ds=c.row:=by
 rw [zF,Tryz.underlying95] at s
 simp only [List.map_cons,List.map_nil,pR] at s
 obtain⟨a,b,rfl,s1,c,d,rfl,s2,rfl⟩:=s
 obtain⟨l,rfl⟩:=Kh (n:=n) s2
 rw [zF,Tryz.underlying3] at s1
 obtain⟨m,rfl⟩:=s1
 exact⟨⟨m,l⟩,rfl⟩
theorem Jh {n:Nat} {ds:List D} (s:zF Tryz.prog (n+5) 91 ds):∃ l:List gQ,ds = [.sl 2 (p9 l)]:=by
 rw [zF,Tryz.underlying91] at s
 simp only [NV] at s
 obtain⟨xV,e,h⟩:=s
 obtain⟨l,rfl⟩:=eX fun e he=>Fc (h e he)
 exact⟨l,e⟩
theorem JS {n:Nat} {ds:List D} (s:zF Tryz.prog (n+6) 93 ds):∃ l:List gQ,ds = [.sl 2 (p9 l)]:=by
 rw [zF,Tryz.underlying93] at s
 simp only [List.map_cons,List.map_nil,pR] at s
 obtain⟨a,b,rfl,s1,rfl⟩:=s
 obtain⟨l,rfl⟩:=Jh (n:=n) s1
 exact⟨l,rfl⟩
theorem Ju {n:Nat} {ds:List D} (s:zF Tryz.prog (n+7) 23 ds):∃ l:List (List gQ),ds = [.sl 1 (qY l)]:=by
 rw [zF,Tryz.underlying23] at s
 simp only [NZ] at s
 obtain⟨xV,e,h⟩:=s
 obtain⟨l,rfl⟩:=eX (f:=fun s=>[D.sl 2 (p9 s)]) fun e he=>JS (h e he)
 exact⟨l,e⟩
theorem Od {M:Nat->Prop} {W:World} {v:Value} {a:D} (h:RP M W v a) (s:cL Tryz.prog 8 26 a):∃ p:yF,a=p.d:=by
 have h1:∃ ds,a = .agg ds/\zF Tryz.prog 8 26 ds:=by
  unfold cL at s
  rw [Tryz.underlying26] at s
  exact s
 obtain⟨ds,rfl,q⟩:=h1
 clear s
 have hf:=h.fact
 simp only [D.fact] at hf
 rw [zF.eq_def] at q
 simp only [Tryz.underlying26] at q
 simp only [List.map_cons,List.map_nil,pR] at q
 obtain⟨a1,b1,rfl,s1,a2,b2,rfl,s2,a3,b3,rfl,s3,a4,b4,rfl,s4,a5,b5,rfl,s5,rfl⟩:=q
 rw [zF,Tryz.underlying3] at s1
 obtain⟨x,rfl⟩:=s1
 obtain⟨h1,hf⟩:=eI hf
 obtain⟨h2,hf⟩:=eI hf
 obtain⟨h3,hf⟩:=eI hf
 obtain⟨y,rfl⟩:=FY (n:=5) s2 h2
 obtain⟨z,rfl⟩:=FY (n:=5) s3 h3
 obtain⟨u,rfl⟩:=Ju (n:=0) s4
 obtain⟨w,rfl⟩:=Eh (n:=1) s5
 exact⟨⟨x,y,z,u,w⟩,rfl⟩
end
end Go.Proofs.YtndfaefmmcoapaaGreat
