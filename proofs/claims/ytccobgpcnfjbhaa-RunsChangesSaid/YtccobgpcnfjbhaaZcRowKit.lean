/- Part RowKit. -/
import Derived.Test.YtccobgpcnfjbhaaRows
import Derived.Test.YtccobgpcnfjbhaaZcX9
import Derived.WalkKit
import Derived.ProofKit
import Derived.OpenShut
set_option linter.unusedSectionVars false
set_option linter.unusedVariables false
set_option linter.unusedSimpArgs false
set_option linter.defProp false
set_option maxRecDepth 20000
set_option maxHeartbeats 1000000
namespace Go.Proofs.Ytccobgpcnfjbhaa
open Go.ChangeShapes Go.WideShapes Go.ChangeAt Go.RowKit Go.Pd
theorem own : ownKnob Try.prog.godebug=none:=by kernel_rfl
theorem laidOut : laidOutB Try.prog=true:=by kernel_rfl
theorem Yw (W:World):cB W fun _=>False:=by
 intro p hp
 simp [vZ.rZ] at hp
theorem Wp {a:D} (s:mC Try.prog 8 3 a):∃ w:Int,a = .int .i64 w:=by
 simp only [mC,Try.underlying3,wP,List.cons.injEq,and_true] at s
 exact s
section
open Go.Pd.Ru
theorem Wh : Try.prog.cellsOf 3=1:=by kernel_rfl
theorem YF : Try.prog.cellsOf 60=1:=by kernel_rfl
theorem Wi : Try.prog.cellsOf 99=1:=by kernel_rfl
theorem u5 : Try.prog.cellsOf 64=2:=by kernel_rfl
theorem pr : ∀ {xX:List (List D)},(∀ e ∈ xX,∃ i:Int,e = [.int .i64 i])->∃ l,xX=rows .i64 l
 | [],_=>⟨[],rfl⟩
 | e :: r,h=>by
  obtain⟨i,rfl⟩:=h e (by simp)
  obtain⟨l,rfl⟩:=pr (xX:=r) fun e he=>h e (by simp [he])
  exact⟨i :: l,rfl⟩
theorem R8 {n:Nat} {ds:List D} (s:wP Try.prog (n+2) 60 ds):∃ l,ds = [.sl 1 (rows .i64 l)]:=by
 simp only [wP,Try.underlying60,Try.underlying3,Wh] at s
 obtain⟨xX,rfl,h⟩:=s
 obtain⟨l,rfl⟩:=pr h
 exact⟨l,rfl⟩
theorem Y0 : ∀ {xX:List (List D)},(∀ e ∈ xX,∃ l,e = [.sl 1 (rows .i64 l)])->∃ l,xX=rl l
 | [],_=>⟨[],rfl⟩
 | e :: r,h=>by
  obtain⟨i,rfl⟩:=h e (by simp)
  obtain⟨l,rfl⟩:=Y0 (xX:=r) fun e he=>h e (by simp [he])
  exact⟨i :: l,rfl⟩
theorem So {n:Nat} {ds:List D} (s:wP Try.prog (n+3) 61 ds):∃ l,ds = [.sl 1 (rl l)]:=by
 rw [wP,Try.underlying61] at s
 simp only [YF] at s
 obtain⟨xX,rfl,h⟩:=s
 obtain⟨l,rfl⟩:=Y0 fun e he=>R8 (n:=n) (h e he)
 exact⟨l,rfl⟩
theorem SN {n:Nat} {ds:List D} (s:wP Try.prog (n+2) 62 ds) (hf:D.uK ds):∃ l,ds = [.sl 1 (us l)]:=by
 simp only [wP,Try.underlying62,Try.underlying99,Wi] at s
 obtain⟨xX,rfl,h⟩:=s
 simp only [D.uK,D.fact] at hf
 obtain⟨l,rfl⟩:=Y2 h hf.1.2
 exact⟨l,rfl⟩
theorem jL : ∀ {a b:List D},D.uK (a++b)->D.uK a/\D.uK b
 | [],b,h=>⟨trivial,h⟩
 | d :: a,b,h=>by
  simp only [List.cons_append,D.uK] at h ⊢
  obtain⟨h1,h2⟩:=jL h.2
  exact⟨⟨h.1,h1⟩,h2⟩
theorem Tk {n:Nat} {ds:List D} (s:wP Try.prog (n+4) 64 ds) (hf:D.uK ds):∃ r:xN,ds=r.row:=by
 rw [wP,Try.underlying64] at s
 simp only [List.map_cons,List.map_nil,rC] at s
 obtain⟨a,b,rfl,s1,c,d,rfl,s2,rfl⟩:=s
 obtain⟨_,h2⟩:=jL hf
 obtain⟨l,rfl⟩:=So (n:=n) s1
 obtain⟨m,rfl⟩:=SN (n:=n+1) s2 (jL h2).1
 exact⟨⟨l,m⟩,rfl⟩
theorem wk : ∀ {xX:List (List D)},D.cD xX->∀ e ∈ xX,D.uK e
 | [],_,e,he=>by cases he
 | x :: r,h,e,he=>by
  simp only [D.cD] at h
  rcases List.mem_cons.1 he with rfl | he
  ·exact h.1
  ·exact wk h.2 e he
theorem pw : ∀ {xX:List (List D)},(∀ e ∈ xX,∃ r:xN,e=r.row)->∃ l,xX=xK l
 | [],_=>⟨[],rfl⟩
 | e :: r,h=>by
  obtain⟨i,rfl⟩:=h e (by simp)
  obtain⟨l,rfl⟩:=pw (xX:=r) fun e he=>h e (by simp [he])
  exact⟨i :: l,rfl⟩
theorem Z4 {M:Nat->Prop} {W:World} {v:Value} {a:D} (h:RP M W v a) (s:mC Try.prog 8 30 a):∃ s:wQ,a=s.d:=by
 have h1:∃ ds,a = .agg ds/\wP Try.prog 8 30 ds:=by
  unfold mC at s
  rw [Try.underlying30] at s
  exact s
 obtain⟨ds,rfl,q⟩:=h1
 clear s
 have hf:=h.fact
 simp only [D.fact] at hf
 rw [wP.eq_def] at q
 simp only [Try.underlying30] at q
 simp only [List.map_cons,List.map_nil,rC] at q
 obtain⟨a1,b1,rfl,s1,a2,b2,rfl,s2,a3,b3,rfl,s3,a4,b4,rfl,s4,rfl⟩:=q
 simp only [wP,Try.underlying3] at s1 s2 s3
 obtain⟨x,rfl⟩:=s1
 obtain⟨y,rfl⟩:=s2
 obtain⟨z,rfl⟩:=s3
 rw [wP.eq_def] at s4
 simp only [Try.underlying28,u5] at s4
 obtain⟨xX,rfl,h4⟩:=s4
 simp only [List.cons_append,List.nil_append,List.append_nil,D.uK,D.fact] at hf
 obtain⟨l,rfl⟩:=pw fun e he=>Tk (n:=2) (h4 e he) (wk hf.2.2.2.1.2 e he)
 exact⟨⟨x,y,z,l⟩,rfl⟩
end
end Go.Proofs.Ytccobgpcnfjbhaa
