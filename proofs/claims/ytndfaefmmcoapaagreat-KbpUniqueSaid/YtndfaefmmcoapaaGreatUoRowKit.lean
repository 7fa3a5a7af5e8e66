/- Part RowKit. -/
import Derived.Test.YtndfaefmmcoapaaGreatRows
import Derived.Test.YtndfaefmmcoapaaGreatUoKE
import Derived.WalkKit
import Derived.ProofKit
import Derived.OpenShut
set_option linter.unusedSectionVars false
set_option linter.unusedVariables false
set_option linter.unusedSimpArgs false
set_option linter.defProp false
set_option maxRecDepth 20000
set_option maxHeartbeats 1000000
namespace Go.Proofs.YtndfaefmmcoapaaGreat
open Go.ChangeShapes Go.WideShapes Go.ChangeAt Go.RowKit Go.Pd
theorem own : ownKnob Tryz.prog.godebug=none:=by kernel_rfl
theorem laidOut : laidOutB Tryz.prog=true:=by kernel_rfl
theorem aEf (W:World):aRo W fun _=>False:=by
 intro p hp
 simp [sO.jS] at hp
theorem bYy {M:Nat->Prop} {W:World} {v:Value} {a:D} (h:RP M W v a) (s:mS Tryz.prog 8 5 a):∃ n:Nat,n<256/\a = .int .u8 (n:Int):=by
 simp only [mS,Tryz.underlying5,yH,List.cons.injEq,and_true] at s
 obtain⟨n,rfl⟩:=s
 have hf:=h.fact
 simp only [D.fact] at hf
 have e2:IntKind.u8.max=255:=rfl
 have e1:IntKind.u8.min=0:=rfl
 exact⟨n.toNat,by omega,by rw [Int.toNat_of_nonneg (by omega)]⟩
section
open Go.Pd.Ru
theorem bXo : Tryz.prog.cellsOf 56=1:=by kernel_rfl
theorem usC {n:Nat} {ds:List D} (s:yH Tryz.prog (n+2) 22 ds) (hf:D.uE ds):∃ l,ds = [.sl 1 (us l)]:=by
 simp only [yH,Tryz.underlying22,Tryz.underlying56,bXo] at s
 obtain⟨els,rfl,h⟩:=s
 simp only [D.uE,D.fact] at hf
 obtain⟨l,rfl⟩:=aBu h hf.1.2
 exact⟨l,rfl⟩
theorem rM : ∀ {a b:List D},D.uE (a++b)->D.uE a/\D.uE b
 | [],b,h=>⟨trivial,h⟩
 | d :: a,b,h=>by
  simp only [List.cons_append,D.uE] at h ⊢
  obtain⟨h1,h2⟩:=rM h.2
  exact⟨⟨h.1,h1⟩,h2⟩
theorem aSl : ∀ {els:List (List D)},D.aRn els->∀ e ∈ els,D.uE e
 | [],_,e,he=>by cases he
 | x :: r,h,e,he=>by
  simp only [D.aRn] at h
  rcases List.mem_cons.1 he with rfl | he
  ·exact h.1
  ·exact aSl h.2 e he
end
section
open Go.Pd.Ru Go.Pd.Fm Go.Pd.Kb
theorem aD9 : Tryz.prog.cellsOf 138=6:=by kernel_rfl
theorem aCb : Tryz.prog.cellsOf 74=2:=by kernel_rfl
theorem aH0 : Tryz.prog.cellsOf 72=1:=by kernel_rfl
theorem aCd : Tryz.prog.cellsOf 95=2:=by kernel_rfl
theorem aCa : Tryz.prog.cellsOf 93=1:=by kernel_rfl
theorem ndC {n:Nat} {ds:List D} (s:yH Tryz.prog (n+2) 138 ds):∃ p:Nd,ds=p.row:=by
 rw [yH,Tryz.underlying138] at s
 simp only [List.map_cons,List.map_nil,tE] at s
 obtain⟨a1,b1,rfl,s1,a2,b2,rfl,s2,a3,b3,rfl,s3,a4,b4,rfl,s4,a5,b5,rfl,s5,a6,b6,rfl,s6,rfl⟩:=s
 rw [yH,Tryz.underlying3] at s1 s2 s3 s4 s5 s6
 obtain⟨x1,rfl⟩:=s1
 obtain⟨x2,rfl⟩:=s2
 obtain⟨x3,rfl⟩:=s3
 obtain⟨x4,rfl⟩:=s4
 obtain⟨x5,rfl⟩:=s5
 obtain⟨x6,rfl⟩:=s6
 exact⟨⟨x1,x2,x3,x4,x5,x6⟩,rfl⟩
theorem nQ {α:Type} {f:α->List D}:∀ {els:List (List D)},(∀ e ∈ els,∃ p:α,e=f p)->∃ l:List α,els=l.map f
 | [],_=>⟨[],rfl⟩
 | e :: r,h=>by
  obtain⟨i,rfl⟩:=h e (by simp)
  obtain⟨l,rfl⟩:=nQ (els:=r) fun e he=>h e (by simp [he])
  exact⟨i :: l,rfl⟩
theorem bZs {n:Nat} {ds:List D} (s:yH Tryz.prog (n+3) 58 ds):∃ l:List Nd,ds = [.sl 6 (ndR l)]:=by
 rw [yH,Tryz.underlying58] at s
 simp only [aD9] at s
 obtain⟨els,e,h⟩:=s
 obtain⟨l,rfl⟩:=nQ fun e he=>ndC (h e he)
 exact⟨l,e⟩
theorem bUk {n:Nat} {ds:List D} (s:yH Tryz.prog (n+4) 74 ds):∃ c:ClA,ds=c.row:=by
 rw [yH,Tryz.underlying74] at s
 simp only [List.map_cons,List.map_nil,tE] at s
 obtain⟨a,b,rfl,s1,c,d,rfl,s2,rfl⟩:=s
 obtain⟨l,rfl⟩:=bZs (n:=n) s1
 rw [yH,Tryz.underlying3] at s2
 obtain⟨m,rfl⟩:=s2
 exact⟨⟨l,m⟩,rfl⟩
theorem bUj {n:Nat} {ds:List D} (s:yH Tryz.prog (n+5) 72 ds):∃ l:List ClA,ds = [.sl 2 (clR l)]:=by
 rw [yH,Tryz.underlying72] at s
 simp only [aCb] at s
 obtain⟨els,e,h⟩:=s
 obtain⟨l,rfl⟩:=nQ fun e he=>bUk (h e he)
 exact⟨l,e⟩
theorem cdC {n:Nat} {ds:List D} (s:yH Tryz.prog (n+6) 24 ds):∃ l:List (List ClA),ds = [.sl 1 (cdR l)]:=by
 rw [yH,Tryz.underlying24] at s
 simp only [aH0] at s
 obtain⟨els,e,h⟩:=s
 obtain⟨l,rfl⟩:=nQ (f:=fun s=>[D.sl 2 (clR s)]) fun e he=>bUj (h e he)
 exact⟨l,e⟩
theorem bSx {n:Nat} {ds:List D} (s:yH Tryz.prog (n+4) 95 ds):∃ c:AsA,ds=c.row:=by
 rw [yH,Tryz.underlying95] at s
 simp only [List.map_cons,List.map_nil,tE] at s
 obtain⟨a,b,rfl,s1,c,d,rfl,s2,rfl⟩:=s
 obtain⟨l,rfl⟩:=bZs (n:=n) s2
 rw [yH,Tryz.underlying3] at s1
 obtain⟨m,rfl⟩:=s1
 exact⟨⟨m,l⟩,rfl⟩
theorem bZf {n:Nat} {ds:List D} (s:yH Tryz.prog (n+5) 91 ds):∃ l:List AsA,ds = [.sl 2 (asR l)]:=by
 rw [yH,Tryz.underlying91] at s
 simp only [aCd] at s
 obtain⟨els,e,h⟩:=s
 obtain⟨l,rfl⟩:=nQ fun e he=>bSx (h e he)
 exact⟨l,e⟩
theorem bWc {n:Nat} {ds:List D} (s:yH Tryz.prog (n+6) 93 ds):∃ l:List AsA,ds = [.sl 2 (asR l)]:=by
 rw [yH,Tryz.underlying93] at s
 simp only [List.map_cons,List.map_nil,tE] at s
 obtain⟨a,b,rfl,s1,rfl⟩:=s
 obtain⟨l,rfl⟩:=bZf (n:=n) s1
 exact⟨l,rfl⟩
theorem bY4 {n:Nat} {ds:List D} (s:yH Tryz.prog (n+7) 23 ds):∃ l:List (List AsA),ds = [.sl 1 (mvR l)]:=by
 rw [yH,Tryz.underlying23] at s
 simp only [aCa] at s
 obtain⟨els,e,h⟩:=s
 obtain⟨l,rfl⟩:=nQ (f:=fun s=>[D.sl 2 (asR s)]) fun e he=>bWc (h e he)
 exact⟨l,e⟩
theorem aEv {M:Nat->Prop} {W:World} {v:Value} {a:D} (h:RP M W v a) (s:mS Tryz.prog 8 26 a):∃ p:PrA,a=p.d:=by
 have h1:∃ ds,a = .agg ds/\yH Tryz.prog 8 26 ds:=by
  unfold mS at s
  rw [Tryz.underlying26] at s
  exact s
 obtain⟨ds,rfl,q⟩:=h1
 clear s
 have hf:=h.fact
 simp only [D.fact] at hf
 rw [yH.eq_def] at q
 simp only [Tryz.underlying26] at q
 simp only [List.map_cons,List.map_nil,tE] at q
 obtain⟨a1,b1,rfl,s1,a2,b2,rfl,s2,a3,b3,rfl,s3,a4,b4,rfl,s4,a5,b5,rfl,s5,rfl⟩:=q
 rw [yH,Tryz.underlying3] at s1
 obtain⟨x,rfl⟩:=s1
 obtain⟨h1,hf⟩:=rM hf
 obtain⟨h2,hf⟩:=rM hf
 obtain⟨h3,hf⟩:=rM hf
 obtain⟨y,rfl⟩:=usC (n:=5) s2 h2
 obtain⟨z,rfl⟩:=usC (n:=5) s3 h3
 obtain⟨u,rfl⟩:=bY4 (n:=0) s4
 obtain⟨w,rfl⟩:=cdC (n:=1) s5
 exact⟨⟨x,y,z,u,w⟩,rfl⟩
theorem aCc : Tryz.prog.cellsOf 48=3:=by kernel_rfl
theorem bUl {n:Nat} {ds:List D} (s:yH Tryz.prog (n+3) 48 ds) (hf:D.uE ds):∃ c:ChA,ds=c.row:=by
 rw [yH,Tryz.underlying48] at s
 simp only [List.map_cons,List.map_nil,tE] at s
 obtain⟨a,b,rfl,s1,c,d,rfl,s2,e,f,rfl,s3,rfl⟩:=s
 obtain⟨_,hf⟩:=rM hf
 obtain⟨h2,_⟩:=rM hf
 obtain⟨l,rfl⟩:=usC (n:=n) s2 h2
 rw [yH,Tryz.underlying3] at s1 s3
 obtain⟨m,rfl⟩:=s1
 obtain⟨k,rfl⟩:=s3
 exact⟨⟨m,l,k⟩,rfl⟩
theorem bXm {M:Nat->Prop} {W:World} {v:Value} {a:D} (h:RP M W v a) (s:mS Tryz.prog 8 36 a):∃ l:List ChA,a = .sl 3 (chR l):=by
 have h1:yH Tryz.prog 8 36 [a]:=by
  unfold mS at s
  rw [Tryz.underlying36] at s
  exact s
 rw [yH,Tryz.underlying36] at h1
 simp only [aCc] at h1
 obtain⟨els,e,q⟩:=h1
 simp only [List.cons.injEq,and_true] at e
 subst e
 have hf:=h.fact
 simp only [D.fact] at hf
 obtain⟨l,rfl⟩:=nQ fun e he=>bUl (n:=4) (q e he) (aSl hf.2 e he)
 exact⟨l,rfl⟩
end
end Go.Proofs.YtndfaefmmcoapaaGreat
