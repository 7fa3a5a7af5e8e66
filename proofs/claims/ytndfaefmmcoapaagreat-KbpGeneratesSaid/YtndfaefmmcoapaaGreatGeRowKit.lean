/- Part RowKit. -/
import Derived.Test.YtndfaefmmcoapaaGreatRows
import Derived.Test.YtndfaefmmcoapaaGreatGeKA
import Derived.WalkKit
import Derived.ProofKit
import Derived.OpenShut
set_option linter.unusedSectionVars false
set_option linter.unusedVariables false
set_option linter.unusedSimpArgs false
set_option linter.defProp false
set_option maxRecDepth 20000
set_option maxHeartbeats 1000000
namespace Go.Proofs.YtndfaefmmcoapaaGreat
open Go.ChangeShapes Go.WideShapes Go.ChangeAt Go.RowKit Go.Pd
theorem own : ownKnob Tryz.prog.godebug=none:=by kernel_rfl
theorem laidOut : laidOutB Tryz.prog=true:=by kernel_rfl
theorem PA (W:World):iz W fun _=>False:=by
 intro p hp
 simp [tP.nR] at hp
theorem MC {a:D} (s:iL Tryz.prog 8 3 a):∃ w:Int,a = .int .i64 w:=by
 simp only [iL,Tryz.underlying3,zH,List.cons.injEq,and_true] at s
 exact s
section
open Go.Pd.Ru
theorem Lt : Tryz.prog.cellsOf 56=1:=by kernel_rfl
theorem Jz {n:Nat} {ds:List D} (s:zH Tryz.prog (n+2) 22 ds) (hf:D.sR ds):∃ l,ds = [.sl 1 (us l)]:=by
 simp only [zH,Tryz.underlying22,Tryz.underlying56,Lt] at s
 obtain⟨xW,rfl,h⟩:=s
 simp only [D.sR,D.fact] at hf
 obtain⟨l,rfl⟩:=NV h hf.1.2
 exact⟨l,rfl⟩
theorem mH : ∀ {a b:List D},D.sR (a++b)->D.sR a/\D.sR b
 | [],b,h=>⟨trivial,h⟩
 | d :: a,b,h=>by
  simp only [List.cons_append,D.sR] at h ⊢
  obtain⟨h1,h2⟩:=mH h.2
  exact⟨⟨h.1,h1⟩,h2⟩
theorem Yh : ∀ {xW:List (List D)},D.ja xW->∀ e ∈ xW,D.sR e
 | [],_,e,he=>by cases he
 | x :: r,h,e,he=>by
  simp only [D.ja] at h
  rcases List.mem_cons.1 he with rfl | he
  ·exact h.1
  ·exact Yh h.2 e he
end
section
open Go.Pd.Ru Go.Pd.Fm Go.Pd.Kb
theorem Nv : Tryz.prog.cellsOf 138=6:=by kernel_rfl
theorem Nt : Tryz.prog.cellsOf 74=2:=by kernel_rfl
theorem Q0 : Tryz.prog.cellsOf 72=1:=by kernel_rfl
theorem Nr : Tryz.prog.cellsOf 95=2:=by kernel_rfl
theorem Nu : Tryz.prog.cellsOf 93=1:=by kernel_rfl
theorem Fu {n:Nat} {ds:List D} (s:zH Tryz.prog (n+2) 138 ds):∃ p:Nd,ds=p.row:=by
 rw [zH,Tryz.underlying138] at s
 simp only [List.map_cons,List.map_nil,pV] at s
 obtain⟨a1,b1,rfl,s1,a2,b2,rfl,s2,a3,b3,rfl,s3,a4,b4,rfl,s4,a5,b5,rfl,s5,a6,b6,rfl,s6,rfl⟩:=s
 rw [zH,Tryz.underlying3] at s1 s2 s3 s4 s5 s6
 obtain⟨x1,rfl⟩:=s1
 obtain⟨x2,rfl⟩:=s2
 obtain⟨x3,rfl⟩:=s3
 obtain⟨x4,rfl⟩:=s4
 obtain⟨x5,rfl⟩:=s5
 obtain⟨x6,rfl⟩:=s6
 exact⟨⟨x1,x2,x3,x4,x5,x6⟩,rfl⟩
theorem iD {α:Type} {f:α->List D}:∀ {xW:List (List D)},(∀ e ∈ xW,∃ p:α,e=f p)->∃ l:List α,xW=l.map f
 | [],_=>⟨[],rfl⟩
 | e :: r,h=>by
  obtain⟨i,rfl⟩:=h e (by simp)
  obtain⟨l,rfl⟩:=iD (xW:=r) fun e he=>h e (by simp [he])
  exact⟨i :: l,rfl⟩
theorem L7 {n:Nat} {ds:List D} (s:zH Tryz.prog (n+3) 58 ds):∃ l:List Nd,ds = [.sl 6 (wN l)]:=by
 rw [zH,Tryz.underlying58] at s
 simp only [Nv] at s
 obtain⟨xW,e,h⟩:=s
 obtain⟨l,rfl⟩:=iD fun e he=>Fu (h e he)
 exact⟨l,e⟩
theorem I6 {n:Nat} {ds:List D} (s:zH Tryz.prog (n+4) 74 ds):∃ c:bL,ds=c.row:=by
 rw [zH,Tryz.underlying74] at s
 simp only [List.map_cons,List.map_nil,pV] at s
 obtain⟨a,b,rfl,s1,c,d,rfl,s2,rfl⟩:=s
 obtain⟨l,rfl⟩:=L7 (n:=n) s1
 rw [zH,Tryz.underlying3] at s2
 obtain⟨m,rfl⟩:=s2
 exact⟨⟨l,m⟩,rfl⟩
theorem I7 {n:Nat} {ds:List D} (s:zH Tryz.prog (n+5) 72 ds):∃ l:List bL,ds = [.sl 2 (Ze l)]:=by
 rw [zH,Tryz.underlying72] at s
 simp only [Nt] at s
 obtain⟨xW,e,h⟩:=s
 obtain⟨l,rfl⟩:=iD fun e he=>I6 (h e he)
 exact⟨l,e⟩
theorem F6 {n:Nat} {ds:List D} (s:zH Tryz.prog (n+6) 24 ds):∃ l:List (List bL),ds = [.sl 1 (uJ l)]:=by
 rw [zH,Tryz.underlying24] at s
 simp only [Q0] at s
 obtain⟨xW,e,h⟩:=s
 obtain⟨l,rfl⟩:=iD (f:=fun s=>[D.sl 2 (Ze s)]) fun e he=>I7 (h e he)
 exact⟨l,e⟩
theorem GJ {n:Nat} {ds:List D} (s:zH Tryz.prog (n+4) 95 ds):∃ c:fP,ds=c.row:=by
 rw [zH,Tryz.underlying95] at s
 simp only [List.map_cons,List.map_nil,pV] at s
 obtain⟨a,b,rfl,s1,c,d,rfl,s2,rfl⟩:=s
 obtain⟨l,rfl⟩:=L7 (n:=n) s2
 rw [zH,Tryz.underlying3] at s1
 obtain⟨m,rfl⟩:=s1
 exact⟨⟨m,l⟩,rfl⟩
theorem KD {n:Nat} {ds:List D} (s:zH Tryz.prog (n+5) 91 ds):∃ l:List fP,ds = [.sl 2 (k9 l)]:=by
 rw [zH,Tryz.underlying91] at s
 simp only [Nr] at s
 obtain⟨xW,e,h⟩:=s
 obtain⟨l,rfl⟩:=iD fun e he=>GJ (h e he)
 exact⟨l,e⟩
theorem Jp {n:Nat} {ds:List D} (s:zH Tryz.prog (n+6) 93 ds):∃ l:List fP,ds = [.sl 2 (k9 l)]:=by
 rw [zH,Tryz.underlying93] at s
 simp only [List.map_cons,List.map_nil,pV] at s
 obtain⟨a,b,rfl,s1,rfl⟩:=s
 obtain⟨l,rfl⟩:=KD (n:=n) s1
 exact⟨l,rfl⟩
theorem KU {n:Nat} {ds:List D} (s:zH Tryz.prog (n+7) 23 ds):∃ l:List (List fP),ds = [.sl 1 (uK l)]:=by
 rw [zH,Tryz.underlying23] at s
 simp only [Nu] at s
 obtain⟨xW,e,h⟩:=s
 obtain⟨l,rfl⟩:=iD (f:=fun s=>[D.sl 2 (k9 s)]) fun e he=>Jp (h e he)
 exact⟨l,e⟩
theorem Ot {M:Nat->Prop} {W:World} {v:Value} {a:D} (h:RP M W v a) (s:iL Tryz.prog 8 26 a):∃ p:yT,a=p.d:=by
 have h1:∃ ds,a = .agg ds/\zH Tryz.prog 8 26 ds:=by
  unfold iL at s
  rw [Tryz.underlying26] at s
  exact s
 obtain⟨ds,rfl,q⟩:=h1
 clear s
 have hf:=h.fact
 simp only [D.fact] at hf
 rw [zH.eq_def] at q
 simp only [Tryz.underlying26] at q
 simp only [List.map_cons,List.map_nil,pV] at q
 obtain⟨a1,b1,rfl,s1,a2,b2,rfl,s2,a3,b3,rfl,s3,a4,b4,rfl,s4,a5,b5,rfl,s5,rfl⟩:=q
 rw [zH,Tryz.underlying3] at s1
 obtain⟨x,rfl⟩:=s1
 obtain⟨h1,hf⟩:=mH hf
 obtain⟨h2,hf⟩:=mH hf
 obtain⟨h3,hf⟩:=mH hf
 obtain⟨y,rfl⟩:=Jz (n:=5) s2 h2
 obtain⟨z,rfl⟩:=Jz (n:=5) s3 h3
 obtain⟨u,rfl⟩:=KU (n:=0) s4
 obtain⟨w,rfl⟩:=F6 (n:=1) s5
 exact⟨⟨x,y,z,u,w⟩,rfl⟩
theorem Ns : Tryz.prog.cellsOf 48=3:=by kernel_rfl
theorem I5 {n:Nat} {ds:List D} (s:zH Tryz.prog (n+3) 48 ds) (hf:D.sR ds):∃ c:uI,ds=c.row:=by
 rw [zH,Tryz.underlying48] at s
 simp only [List.map_cons,List.map_nil,pV] at s
 obtain⟨a,b,rfl,s1,c,d,rfl,s2,e,f,rfl,s3,rfl⟩:=s
 obtain⟨_,hf⟩:=mH hf
 obtain⟨h2,_⟩:=mH hf
 obtain⟨l,rfl⟩:=Jz (n:=n) s2 h2
 rw [zH,Tryz.underlying3] at s1 s3
 obtain⟨m,rfl⟩:=s1
 obtain⟨k,rfl⟩:=s3
 exact⟨⟨m,l,k⟩,rfl⟩
theorem Lu {M:Nat->Prop} {W:World} {v:Value} {a:D} (h:RP M W v a) (s:iL Tryz.prog 8 36 a):∃ l:List uI,a = .sl 3 (qO l):=by
 have h1:zH Tryz.prog 8 36 [a]:=by
  unfold iL at s
  rw [Tryz.underlying36] at s
  exact s
 rw [zH,Tryz.underlying36] at h1
 simp only [Ns] at h1
 obtain⟨xW,e,q⟩:=h1
 simp only [List.cons.injEq,and_true] at e
 subst e
 have hf:=h.fact
 simp only [D.fact] at hf
 obtain⟨l,rfl⟩:=iD fun e he=>I5 (n:=4) (q e he) (Yh hf.2 e he)
 exact⟨l,rfl⟩
end
end Go.Proofs.YtndfaefmmcoapaaGreat
