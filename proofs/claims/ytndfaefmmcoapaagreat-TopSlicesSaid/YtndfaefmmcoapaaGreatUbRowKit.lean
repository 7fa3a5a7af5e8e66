/- Part RowKit. -/
import Derived.Test.YtndfaefmmcoapaaGreatRows
import Derived.Test.YtndfaefmmcoapaaGreatUbF18
import Derived.WalkKit
import Derived.ProofKit
import Derived.OpenShut
set_option linter.unusedSectionVars false
set_option linter.unusedVariables false
set_option linter.unusedSimpArgs false
set_option linter.defProp false
set_option maxRecDepth 20000
set_option maxHeartbeats 1000000
namespace Go.Proofs.YtndfaefmmcoapaaGreat
open Go.ChangeShapes Go.WideShapes Go.ChangeAt Go.RowKit Go.Pd
theorem own : ownKnob Tryz.prog.godebug=none:=by kernel_rfl
theorem laidOut : laidOutB Tryz.prog=true:=by kernel_rfl
theorem RW (W:World):u0 W fun _=>False:=by
 intro p hp
 simp [rL.jK] at hp
section
open Go.Pd.Ru
theorem Nt : Tryz.prog.cellsOf 3=1:=by kernel_rfl
theorem QB : Tryz.prog.cellsOf 90=1:=by kernel_rfl
theorem Nu : Tryz.prog.cellsOf 56=1:=by kernel_rfl
theorem TG : Tryz.prog.cellsOf 65=2:=by kernel_rfl
theorem YF : ∀ {els:List (List D)},(∀ e ∈ els,∃ i:Int,e = [.int .i64 i])->∃ l,els=rows .i64 l
 | [],_=>⟨[],rfl⟩
 | e :: r,h=>by
  obtain⟨i,rfl⟩:=h e (by simp)
  obtain⟨l,rfl⟩:=YF (els:=r) fun e he=>h e (by simp [he])
  exact⟨i :: l,rfl⟩
theorem clC {n:Nat} {ds:List D} (s:wP Tryz.prog (n+2) 90 ds):∃ l,ds = [.sl 1 (rows .i64 l)]:=by
 simp only [wP,Tryz.underlying90,Tryz.underlying3,Nt] at s
 obtain⟨els,rfl,h⟩:=s
 obtain⟨l,rfl⟩:=YF h
 exact⟨l,rfl⟩
theorem PA : ∀ {els:List (List D)},(∀ e ∈ els,∃ l,e = [.sl 1 (rows .i64 l)])->∃ l,els=rl l
 | [],_=>⟨[],rfl⟩
 | e :: r,h=>by
  obtain⟨i,rfl⟩:=h e (by simp)
  obtain⟨l,rfl⟩:=PA (els:=r) fun e he=>h e (by simp [he])
  exact⟨i :: l,rfl⟩
theorem KV {n:Nat} {ds:List D} (s:wP Tryz.prog (n+3) 63 ds):∃ l,ds = [.sl 1 (rl l)]:=by
 rw [wP,Tryz.underlying63] at s
 simp only [QB] at s
 obtain⟨els,rfl,h⟩:=s
 obtain⟨l,rfl⟩:=PA fun e he=>clC (n:=n) (h e he)
 exact⟨l,rfl⟩
theorem usC {n:Nat} {ds:List D} (s:wP Tryz.prog (n+2) 22 ds) (hf:D.sT ds):∃ l,ds = [.sl 1 (us l)]:=by
 simp only [wP,Tryz.underlying22,Tryz.underlying56,Nu] at s
 obtain⟨els,rfl,h⟩:=s
 simp only [D.sT,D.fact] at hf
 obtain⟨l,rfl⟩:=PC h hf.1.2
 exact⟨l,rfl⟩
theorem dC : ∀ {a b:List D},D.sT (a++b)->D.sT a/\D.sT b
 | [],b,h=>⟨trivial,h⟩
 | d :: a,b,h=>by
  simp only [List.cons_append,D.sT] at h ⊢
  obtain⟨h1,h2⟩:=dC h.2
  exact⟨⟨h.1,h1⟩,h2⟩
theorem ML {n:Nat} {ds:List D} (s:wP Tryz.prog (n+4) 65 ds) (hf:D.sT ds):∃ r:xG,ds=r.row:=by
 rw [wP,Tryz.underlying65] at s
 simp only [List.map_cons,List.map_nil,pH] at s
 obtain⟨a,b,rfl,s1,c,d,rfl,s2,rfl⟩:=s
 obtain⟨_,h2⟩:=dC hf
 obtain⟨l,rfl⟩:=KV (n:=n) s1
 obtain⟨m,rfl⟩:=usC (n:=n+1) s2 (dC h2).1
 exact⟨⟨l,m⟩,rfl⟩
theorem bn : ∀ {els:List (List D)},D.u6 els->∀ e ∈ els,D.sT e
 | [],_,e,he=>by cases he
 | x :: r,h,e,he=>by
  simp only [D.u6] at h
  rcases List.mem_cons.1 he with rfl | he
  ·exact h.1
  ·exact bn h.2 e he
theorem YJ : ∀ {els:List (List D)},(∀ e ∈ els,∃ r:xG,e=r.row)->∃ l,els=zL l
 | [],_=>⟨[],rfl⟩
 | e :: r,h=>by
  obtain⟨i,rfl⟩:=h e (by simp)
  obtain⟨l,rfl⟩:=YJ (els:=r) fun e he=>h e (by simp [he])
  exact⟨i :: l,rfl⟩
theorem Od {M:Nat->Prop} {W:World} {v:Value} {a:D} (h:RP M W v a) (s:fQ Tryz.prog 8 33 a):∃ s:tZ,a=s.d:=by
 have h1:∃ ds,a = .agg ds/\wP Tryz.prog 8 33 ds:=by
  unfold fQ at s
  rw [Tryz.underlying33] at s
  exact s
 obtain⟨ds,rfl,q⟩:=h1
 clear s
 have hf:=h.fact
 simp only [D.fact] at hf
 rw [wP.eq_def] at q
 simp only [Tryz.underlying33] at q
 simp only [List.map_cons,List.map_nil,pH] at q
 obtain⟨a1,b1,rfl,s1,a2,b2,rfl,s2,a3,b3,rfl,s3,a4,b4,rfl,s4,rfl⟩:=q
 simp only [wP,Tryz.underlying3] at s1 s2 s3
 obtain⟨x,rfl⟩:=s1
 obtain⟨y,rfl⟩:=s2
 obtain⟨z,rfl⟩:=s3
 rw [wP.eq_def] at s4
 simp only [Tryz.underlying31,TG] at s4
 obtain⟨els,rfl,h4⟩:=s4
 simp only [List.cons_append,List.nil_append,List.append_nil,D.sT,D.fact] at hf
 obtain⟨l,rfl⟩:=YJ fun e he=>ML (n:=2) (h4 e he) (bn hf.2.2.2.1.2 e he)
 exact⟨⟨x,y,z,l⟩,rfl⟩
end
section
open Go.Pd.Ru Go.Pd.Fm Go.Pd.Kb
theorem QC : Tryz.prog.cellsOf 138=6:=by kernel_rfl
theorem ndC {n:Nat} {ds:List D} (s:wP Tryz.prog (n+2) 138 ds):∃ p:Nd,ds=p.row:=by
 rw [wP,Tryz.underlying138] at s
 simp only [List.map_cons,List.map_nil,pH] at s
 obtain⟨a1,b1,rfl,s1,a2,b2,rfl,s2,a3,b3,rfl,s3,a4,b4,rfl,s4,a5,b5,rfl,s5,a6,b6,rfl,s6,rfl⟩:=s
 rw [wP,Tryz.underlying3] at s1 s2 s3 s4 s5 s6
 obtain⟨x1,rfl⟩:=s1
 obtain⟨x2,rfl⟩:=s2
 obtain⟨x3,rfl⟩:=s3
 obtain⟨x4,rfl⟩:=s4
 obtain⟨x5,rfl⟩:=s5
 obtain⟨x6,rfl⟩:=s6
 exact⟨⟨x1,x2,x3,x4,x5,x6⟩,rfl⟩
theorem Y0 {α:Type} {f:α->List D}:∀ {els:List (List D)},(∀ e ∈ els,∃ p:α,e=f p)->∃ l:List α,els=l.map f
 | [],_=>⟨[],rfl⟩
 | e :: r,h=>by
  obtain⟨i,rfl⟩:=h e (by simp)
  obtain⟨l,rfl⟩:=Y0 (els:=r) fun e he=>h e (by simp [he])
  exact⟨i :: l,rfl⟩
theorem MJ {n:Nat} {ds:List D} (s:wP Tryz.prog (n+3) 58 ds):∃ l:List Nd,ds = [.sl 6 (ndR l)]:=by
 rw [wP,Tryz.underlying58] at s
 simp only [QC] at s
 obtain⟨els,e,h⟩:=s
 obtain⟨l,rfl⟩:=Y0 fun e he=>ndC (h e he)
 exact⟨l,e⟩
theorem OF {a:D} (s:fQ Tryz.prog 8 58 a):∃ l:List Nd,a = .sl 6 (ndR l):=by
 have h:wP Tryz.prog 8 58 [a]:=by
  unfold fQ at s
  rw [Tryz.underlying58] at s
  exact s
 obtain⟨l,e⟩:=MJ (n:=5) h
 exact⟨l,by simpa using e⟩
end
end Go.Proofs.YtndfaefmmcoapaaGreat
