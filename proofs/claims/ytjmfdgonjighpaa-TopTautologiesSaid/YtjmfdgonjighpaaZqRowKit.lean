/- Part RowKit. -/
import Derived.Test.YtjmfdgonjighpaaRows
import Derived.Test.YtjmfdgonjighpaaZqX9
import Derived.WalkKit
import Derived.ProofKit
import Derived.OpenShut
set_option linter.unusedSectionVars false
set_option linter.unusedVariables false
set_option linter.unusedSimpArgs false
set_option linter.defProp false
set_option maxRecDepth 20000
set_option maxHeartbeats 1000000
namespace Go.Proofs.Ytjmfdgonjighpaa
open Go.ChangeShapes Go.WideShapes Go.ChangeAt Go.RowKit Go.Pd
theorem own : ownKnob Try.prog.godebug=none:=by kernel_rfl
theorem laidOut : laidOutB Try.prog=true:=by kernel_rfl
theorem Si (W:World):wx W fun _=>False:=⟨fun p hp=>by simp [vA.sR] at hp,fun p hp=>by simp [vA.deep] at hp⟩
section
open Go.Pd.Fm
theorem Rn : Try.prog.cellsOf 52=6:=by kernel_rfl
theorem Kv {ds:List D} (s:rU Try.prog 7 52 ds):∃ p:Nd,ds=p.row:=by
 rw [rU,Try.underlying52] at s
 simp only [List.map_cons,List.map_nil,mE] at s
 obtain⟨a1,b1,rfl,s1,a2,b2,rfl,s2,a3,b3,rfl,s3,a4,b4,rfl,s4,a5,b5,rfl,s5,a6,b6,rfl,s6,rfl⟩:=s
 rw [rU,Try.underlying3] at s1 s2 s3 s4 s5 s6
 obtain⟨x1,rfl⟩:=s1
 obtain⟨x2,rfl⟩:=s2
 obtain⟨x3,rfl⟩:=s3
 obtain⟨x4,rfl⟩:=s4
 obtain⟨x5,rfl⟩:=s5
 obtain⟨x6,rfl⟩:=s6
 exact⟨⟨x1,x2,x3,x4,x5,x6⟩,rfl⟩
theorem VM : ∀ {xZ:List (List D)},(∀ e ∈ xZ,∃ p:Nd,e=p.row)->∃ l,xZ=vW l
 | [],_=>⟨[],rfl⟩
 | e :: r,h=>by
  obtain⟨i,rfl⟩:=h e (by simp)
  obtain⟨l,rfl⟩:=VM (xZ:=r) fun e he=>h e (by simp [he])
  exact⟨i :: l,rfl⟩
theorem QE {a:D} (s:wv Try.prog 8 22 a):∃ l:List Nd,a = .sl 6 (vW l):=by
 have h:rU Try.prog 8 22 [a]:=by
  unfold wv at s
  rw [Try.underlying22] at s
  exact s
 rw [rU,Try.underlying22] at h
 simp only [Rn] at h
 obtain⟨xZ,e,h⟩:=h
 obtain⟨l,rfl⟩:=VM fun e he=>Kv (h e he)
 exact⟨l,by simpa using e⟩
end
end Go.Proofs.Ytjmfdgonjighpaa
