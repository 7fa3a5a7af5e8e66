/- Part RowKit. -/
import Derived.Test.YtjklmijiccabfaaGreatRows
import Derived.Test.YtjklmijiccabfaaGreatRS1
import Derived.Test.YtjklmijiccabfaaGreatRF4
import Derived.WalkKit
import Derived.ProofKit
import Derived.OpenShut
set_option linter.unusedSectionVars false
set_option linter.unusedVariables false
set_option linter.unusedSimpArgs false
set_option linter.defProp false
set_option maxRecDepth 20000
set_option maxHeartbeats 1000000
namespace Go.Proofs.YtjklmijiccabfaaGreat
open Go.ChangeShapes Go.WideShapes Go.ChangeAt Go.RowKit Go.Pd
theorem own : ownKnob Tryz.prog.godebug=none:=by kernel_rfl
theorem laidOut : laidOutB Tryz.prog=true:=by kernel_rfl
theorem tabs_ok (W:World):TabOK W fun _=>False:=by
 intro p hp
 simp [Tabs.tabs] at hp
section
open Go.Pd.Ru
theorem cellsI : Tryz.prog.cellsOf 3=1:=by kernel_rfl
theorem cellsLI : Tryz.prog.cellsOf 53=1:=by kernel_rfl
theorem cellsU : Tryz.prog.cellsOf 69=1:=by kernel_rfl
theorem cellsRun : Tryz.prog.cellsOf 65=2:=by kernel_rfl
theorem rows_of : ∀ {els:List (List D)},(∀ e ∈ els,∃ i:Int,e = [.int .i64 i])->∃ l,els=rows .i64 l
 | [],_=>⟨[],rfl⟩
 | e :: r,h=>by
  obtain⟨i,rfl⟩:=h e (by simp)
  obtain⟨l,rfl⟩:=rows_of (els:=r) fun e he=>h e (by simp [he])
  exact⟨i :: l,rfl⟩
theorem clC {n:Nat} {ds:List D} (s:shapeC Tryz.prog (n+2) 53 ds):∃ l,ds = [.sl 1 (rows .i64 l)]:=by
 simp only [shapeC,Tryz.underlying53,Tryz.underlying3,cellsI] at s
 obtain⟨els,rfl,h⟩:=s
 obtain⟨l,rfl⟩:=rows_of h
 exact⟨l,rfl⟩
theorem rl_of : ∀ {els:List (List D)},(∀ e ∈ els,∃ l,e = [.sl 1 (rows .i64 l)])->∃ l,els=rl l
 | [],_=>⟨[],rfl⟩
 | e :: r,h=>by
  obtain⟨i,rfl⟩:=h e (by simp)
  obtain⟨l,rfl⟩:=rl_of (els:=r) fun e he=>h e (by simp [he])
  exact⟨i :: l,rfl⟩
theorem cllC {n:Nat} {ds:List D} (s:shapeC Tryz.prog (n+3) 62 ds):∃ l,ds = [.sl 1 (rl l)]:=by
 rw [shapeC,Tryz.underlying62] at s
 simp only [cellsLI] at s
 obtain⟨els,rfl,h⟩:=s
 obtain⟨l,rfl⟩:=rl_of fun e he=>clC (n:=n) (h e he)
 exact⟨l,rfl⟩
theorem usC {n:Nat} {ds:List D} (s:shapeC Tryz.prog (n+2) 63 ds) (hf:D.factL ds):∃ l,ds = [.sl 1 (us l)]:=by
 simp only [shapeC,Tryz.underlying63,Tryz.underlying69,cellsU] at s
 obtain⟨els,rfl,h⟩:=s
 simp only [D.factL,D.fact] at hf
 obtain⟨l,rfl⟩:=us_of h hf.1.2
 exact⟨l,rfl⟩
theorem factL_app : ∀ {a b:List D},D.factL (a++b)->D.factL a/\D.factL b
 | [],b,h=>⟨trivial,h⟩
 | d :: a,b,h=>by
  simp only [List.cons_append,D.factL] at h ⊢
  obtain⟨h1,h2⟩:=factL_app h.2
  exact⟨⟨h.1,h1⟩,h2⟩
theorem runC {n:Nat} {ds:List D} (s:shapeC Tryz.prog (n+4) 65 ds) (hf:D.factL ds):∃ r:RunA,ds=r.row:=by
 rw [shapeC,Tryz.underlying65] at s
 simp only [List.map_cons,List.map_nil,shapeF] at s
 obtain⟨a,b,rfl,s1,c,d,rfl,s2,rfl⟩:=s
 obtain⟨_,h2⟩:=factL_app hf
 obtain⟨l,rfl⟩:=cllC (n:=n) s1
 obtain⟨m,rfl⟩:=usC (n:=n+1) s2 (factL_app h2).1
 exact⟨⟨l,m⟩,rfl⟩
theorem factE_at : ∀ {els:List (List D)},D.factE els->∀ e ∈ els,D.factL e
 | [],_,e,he=>by cases he
 | x :: r,h,e,he=>by
  simp only [D.factE] at h
  rcases List.mem_cons.1 he with rfl | he
  ·exact h.1
  ·exact factE_at h.2 e he
theorem runR_of : ∀ {els:List (List D)},(∀ e ∈ els,∃ r:RunA,e=r.row)->∃ l,els=runR l
 | [],_=>⟨[],rfl⟩
 | e :: r,h=>by
  obtain⟨i,rfl⟩:=h e (by simp)
  obtain⟨l,rfl⟩:=runR_of (els:=r) fun e he=>h e (by simp [he])
  exact⟨i :: l,rfl⟩
theorem sys_of {M:Nat->Prop} {W:World} {v:Value} {a:D} (h:RP M W v a) (s:shapeV Tryz.prog 8 24 a):∃ s:SysA,a=s.d:=by
 have h1:∃ ds,a = .agg ds/\shapeC Tryz.prog 8 24 ds:=by
  unfold shapeV at s
  rw [Tryz.underlying24] at s
  exact s
 obtain⟨ds,rfl,q⟩:=h1
 clear s
 have hf:=h.fact
 simp only [D.fact] at hf
 rw [shapeC.eq_def] at q
 simp only [Tryz.underlying24] at q
 simp only [List.map_cons,List.map_nil,shapeF] at q
 obtain⟨a1,b1,rfl,s1,a2,b2,rfl,s2,a3,b3,rfl,s3,a4,b4,rfl,s4,rfl⟩:=q
 simp only [shapeC,Tryz.underlying3] at s1 s2 s3
 obtain⟨x,rfl⟩:=s1
 obtain⟨y,rfl⟩:=s2
 obtain⟨z,rfl⟩:=s3
 rw [shapeC.eq_def] at s4
 simp only [Tryz.underlying22,cellsRun] at s4
 obtain⟨els,rfl,h4⟩:=s4
 simp only [List.cons_append,List.nil_append,List.append_nil,D.factL,D.fact] at hf
 obtain⟨l,rfl⟩:=runR_of fun e he=>runC (n:=2) (h4 e he) (factE_at hf.2.2.2.1.2 e he)
 exact⟨⟨x,y,z,l⟩,rfl⟩
end
section
open Go.Pd.Fm
theorem cellsNd : Tryz.prog.cellsOf 47=6:=by kernel_rfl
theorem ndC {ds:List D} (s:shapeC Tryz.prog 7 47 ds):∃ p:Nd,ds=p.row:=by
 rw [shapeC,Tryz.underlying47] at s
 simp only [List.map_cons,List.map_nil,shapeF] at s
 obtain⟨a1,b1,rfl,s1,a2,b2,rfl,s2,a3,b3,rfl,s3,a4,b4,rfl,s4,a5,b5,rfl,s5,a6,b6,rfl,s6,rfl⟩:=s
 rw [shapeC,Tryz.underlying3] at s1 s2 s3 s4 s5 s6
 obtain⟨x1,rfl⟩:=s1
 obtain⟨x2,rfl⟩:=s2
 obtain⟨x3,rfl⟩:=s3
 obtain⟨x4,rfl⟩:=s4
 obtain⟨x5,rfl⟩:=s5
 obtain⟨x6,rfl⟩:=s6
 exact⟨⟨x1,x2,x3,x4,x5,x6⟩,rfl⟩
theorem ndR_of : ∀ {els:List (List D)},(∀ e ∈ els,∃ p:Nd,e=p.row)->∃ l,els=ndR l
 | [],_=>⟨[],rfl⟩
 | e :: r,h=>by
  obtain⟨i,rfl⟩:=h e (by simp)
  obtain⟨l,rfl⟩:=ndR_of (els:=r) fun e he=>h e (by simp [he])
  exact⟨i :: l,rfl⟩
theorem nds_of {a:D} (s:shapeV Tryz.prog 8 25 a):∃ l:List Nd,a = .sl 6 (ndR l):=by
 have h:shapeC Tryz.prog 8 25 [a]:=by
  unfold shapeV at s
  rw [Tryz.underlying25] at s
  exact s
 rw [shapeC,Tryz.underlying25] at h
 simp only [cellsNd] at h
 obtain⟨els,e,h⟩:=h
 obtain⟨l,rfl⟩:=ndR_of fun e he=>ndC (h e he)
 exact⟨l,by simpa using e⟩
end
end Go.Proofs.YtjklmijiccabfaaGreat
