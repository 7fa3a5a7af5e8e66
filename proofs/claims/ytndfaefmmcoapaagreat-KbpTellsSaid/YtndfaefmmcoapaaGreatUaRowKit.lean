/- Part RowKit. -/
import Derived.Test.YtndfaefmmcoapaaGreatRows
import Derived.Test.YtndfaefmmcoapaaGreatUaKD
import Derived.WalkKit
import Derived.ProofKit
import Derived.OpenShut
set_option linter.unusedSectionVars false
set_option linter.unusedVariables false
set_option linter.unusedSimpArgs false
set_option linter.defProp false
set_option maxRecDepth 20000
set_option maxHeartbeats 1000000
namespace Go.Proofs.YtndfaefmmcoapaaGreat
open Go.ChangeShapes Go.WideShapes Go.ChangeAt Go.RowKit Go.Pd
theorem own : ownKnob Tryz.prog.godebug=none:=by kernel_rfl
theorem laidOut : laidOutB Tryz.prog=true:=by kernel_rfl
theorem aN3 (W:World):aQs W fun _=>False:=by
 intro p hp
 simp [rV.iT] at hp
theorem bVq {M:Nat->Prop} {W:World} {v:Value} {a:D} (h:RP M W v a) (s:lW Tryz.prog 8 5 a):∃ n:Nat,n<256/\a = .int .u8 (n:Int):=by
 simp only [lW,Tryz.underlying5,zY,List.cons.injEq,and_true] at s
 obtain⟨n,rfl⟩:=s
 have hf:=h.fact
 simp only [D.fact] at hf
 have e2:IntKind.u8.max=255:=rfl
 have e1:IntKind.u8.min=0:=rfl
 exact⟨n.toNat,by omega,by rw [Int.toNat_of_nonneg (by omega)]⟩
section
open Go.Pd.Ru
theorem bWd : Tryz.prog.cellsOf 56=1:=by kernel_rfl
theorem usC {n:Nat} {ds:List D} (s:zY Tryz.prog (n+2) 22 ds) (hf:D.sO ds):∃ l,ds = [.sl 1 (us l)]:=by
 simp only [zY,Tryz.underlying22,Tryz.underlying56,bWd] at s
 obtain⟨els,rfl,h⟩:=s
 simp only [D.sO,D.fact] at hf
 obtain⟨l,rfl⟩:=bX8 h hf.1.2
 exact⟨l,rfl⟩
theorem kQ : ∀ {a b:List D},D.sO (a++b)->D.sO a/\D.sO b
 | [],b,h=>⟨trivial,h⟩
 | d :: a,b,h=>by
  simp only [List.cons_append,D.sO] at h ⊢
  obtain⟨h1,h2⟩:=kQ h.2
  exact⟨⟨h.1,h1⟩,h2⟩
end
section
open Go.Pd.Ru Go.Pd.Fm Go.Pd.Kb
theorem aAp : Tryz.prog.cellsOf 138=6:=by kernel_rfl
theorem aAr : Tryz.prog.cellsOf 74=2:=by kernel_rfl
theorem aEa : Tryz.prog.cellsOf 72=1:=by kernel_rfl
theorem aAs : Tryz.prog.cellsOf 95=2:=by kernel_rfl
theorem aAq : Tryz.prog.cellsOf 93=1:=by kernel_rfl
theorem ndC {n:Nat} {ds:List D} (s:zY Tryz.prog (n+2) 138 ds):∃ p:Nd,ds=p.row:=by
 rw [zY,Tryz.underlying138] at s
 simp only [List.map_cons,List.map_nil,rS] at s
 obtain⟨a1,b1,rfl,s1,a2,b2,rfl,s2,a3,b3,rfl,s3,a4,b4,rfl,s4,a5,b5,rfl,s5,a6,b6,rfl,s6,rfl⟩:=s
 rw [zY,Tryz.underlying3] at s1 s2 s3 s4 s5 s6
 obtain⟨x1,rfl⟩:=s1
 obtain⟨x2,rfl⟩:=s2
 obtain⟨x3,rfl⟩:=s3
 obtain⟨x4,rfl⟩:=s4
 obtain⟨x5,rfl⟩:=s5
 obtain⟨x6,rfl⟩:=s6
 exact⟨⟨x1,x2,x3,x4,x5,x6⟩,rfl⟩
theorem jM {α:Type} {f:α->List D}:∀ {els:List (List D)},(∀ e ∈ els,∃ p:α,e=f p)->∃ l:List α,els=l.map f
 | [],_=>⟨[],rfl⟩
 | e :: r,h=>by
  obtain⟨i,rfl⟩:=h e (by simp)
  obtain⟨l,rfl⟩:=jM (els:=r) fun e he=>h e (by simp [he])
  exact⟨i :: l,rfl⟩
theorem bUn {n:Nat} {ds:List D} (s:zY Tryz.prog (n+3) 58 ds):∃ l:List Nd,ds = [.sl 6 (ndR l)]:=by
 rw [zY,Tryz.underlying58] at s
 simp only [aAp] at s
 obtain⟨els,e,h⟩:=s
 obtain⟨l,rfl⟩:=jM fun e he=>ndC (h e he)
 exact⟨l,e⟩
theorem bRe {n:Nat} {ds:List D} (s:zY Tryz.prog (n+4) 74 ds):∃ c:ClA,ds=c.row:=by
 rw [zY,Tryz.underlying74] at s
 simp only [List.map_cons,List.map_nil,rS] at s
 obtain⟨a,b,rfl,s1,c,d,rfl,s2,rfl⟩:=s
 obtain⟨l,rfl⟩:=bUn (n:=n) s1
 rw [zY,Tryz.underlying3] at s2
 obtain⟨m,rfl⟩:=s2
 exact⟨⟨l,m⟩,rfl⟩
theorem bRd {n:Nat} {ds:List D} (s:zY Tryz.prog (n+5) 72 ds):∃ l:List ClA,ds = [.sl 2 (clR l)]:=by
 rw [zY,Tryz.underlying72] at s
 simp only [aAr] at s
 obtain⟨els,e,h⟩:=s
 obtain⟨l,rfl⟩:=jM fun e he=>bRe (h e he)
 exact⟨l,e⟩
theorem cdC {n:Nat} {ds:List D} (s:zY Tryz.prog (n+6) 24 ds):∃ l:List (List ClA),ds = [.sl 1 (cdR l)]:=by
 rw [zY,Tryz.underlying24] at s
 simp only [aEa] at s
 obtain⟨els,e,h⟩:=s
 obtain⟨l,rfl⟩:=jM (f:=fun s=>[D.sl 2 (clR s)]) fun e he=>bRd (h e he)
 exact⟨l,e⟩
theorem bPr {n:Nat} {ds:List D} (s:zY Tryz.prog (n+4) 95 ds):∃ c:AsA,ds=c.row:=by
 rw [zY,Tryz.underlying95] at s
 simp only [List.map_cons,List.map_nil,rS] at s
 obtain⟨a,b,rfl,s1,c,d,rfl,s2,rfl⟩:=s
 obtain⟨l,rfl⟩:=bUn (n:=n) s2
 rw [zY,Tryz.underlying3] at s1
 obtain⟨m,rfl⟩:=s1
 exact⟨⟨m,l⟩,rfl⟩
theorem bUa {n:Nat} {ds:List D} (s:zY Tryz.prog (n+5) 91 ds):∃ l:List AsA,ds = [.sl 2 (asR l)]:=by
 rw [zY,Tryz.underlying91] at s
 simp only [aAs] at s
 obtain⟨els,e,h⟩:=s
 obtain⟨l,rfl⟩:=jM fun e he=>bPr (h e he)
 exact⟨l,e⟩
theorem bU6 {n:Nat} {ds:List D} (s:zY Tryz.prog (n+6) 93 ds):∃ l:List AsA,ds = [.sl 2 (asR l)]:=by
 rw [zY,Tryz.underlying93] at s
 simp only [List.map_cons,List.map_nil,rS] at s
 obtain⟨a,b,rfl,s1,rfl⟩:=s
 obtain⟨l,rfl⟩:=bUa (n:=n) s1
 exact⟨l,rfl⟩
theorem bVx {n:Nat} {ds:List D} (s:zY Tryz.prog (n+7) 23 ds):∃ l:List (List AsA),ds = [.sl 1 (mvR l)]:=by
 rw [zY,Tryz.underlying23] at s
 simp only [aAq] at s
 obtain⟨els,e,h⟩:=s
 obtain⟨l,rfl⟩:=jM (f:=fun s=>[D.sl 2 (asR s)]) fun e he=>bU6 (h e he)
 exact⟨l,e⟩
theorem aC6 {M:Nat->Prop} {W:World} {v:Value} {a:D} (h:RP M W v a) (s:lW Tryz.prog 8 26 a):∃ p:PrA,a=p.d:=by
 have h1:∃ ds,a = .agg ds/\zY Tryz.prog 8 26 ds:=by
  unfold lW at s
  rw [Tryz.underlying26] at s
  exact s
 obtain⟨ds,rfl,q⟩:=h1
 clear s
 have hf:=h.fact
 simp only [D.fact] at hf
 rw [zY.eq_def] at q
 simp only [Tryz.underlying26] at q
 simp only [List.map_cons,List.map_nil,rS] at q
 obtain⟨a1,b1,rfl,s1,a2,b2,rfl,s2,a3,b3,rfl,s3,a4,b4,rfl,s4,a5,b5,rfl,s5,rfl⟩:=q
 rw [zY,Tryz.underlying3] at s1
 obtain⟨x,rfl⟩:=s1
 obtain⟨h1,hf⟩:=kQ hf
 obtain⟨h2,hf⟩:=kQ hf
 obtain⟨h3,hf⟩:=kQ hf
 obtain⟨y,rfl⟩:=usC (n:=5) s2 h2
 obtain⟨z,rfl⟩:=usC (n:=5) s3 h3
 obtain⟨u,rfl⟩:=bVx (n:=0) s4
 obtain⟨w,rfl⟩:=cdC (n:=1) s5
 exact⟨⟨x,y,z,u,w⟩,rfl⟩
end
theorem bY3 {M:Nat->Prop} {W:World} {v:Value} {a:D} (h:RP M W v a) (s:lW Tryz.prog 8 66 a):∃ n:Nat,n<65536/\a = .int .u16 (n:Int):=by
 simp only [lW,Tryz.underlying66,zY,List.cons.injEq,and_true] at s
 obtain⟨n,rfl⟩:=s
 have hf:=h.fact
 simp only [D.fact] at hf
 have e2:IntKind.u16.max=65535:=rfl
 have e1:IntKind.u16.min=0:=rfl
 exact⟨n.toNat,by omega,by rw [Int.toNat_of_nonneg (by omega)]⟩
end Go.Proofs.YtndfaefmmcoapaaGreat
