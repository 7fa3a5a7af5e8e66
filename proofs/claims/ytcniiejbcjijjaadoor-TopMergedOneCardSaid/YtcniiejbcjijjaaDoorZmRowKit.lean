/- Part RowKit. -/
import Derived.Test.YtcniiejbcjijjaaDoorCards
import Derived.Test.YtcniiejbcjijjaaDoorTie
import Derived.Test.YtcniiejbcjijjaaDoorZmN5
import Derived.WalkKit
import Derived.ProofKit
import Derived.OpenShut
import Derived.Deep.DeepHandedRow
import Derived.LaidMore
import Derived.Stop.Joined
set_option linter.unusedSectionVars false
set_option linter.unusedVariables false
set_option linter.unusedSimpArgs false
set_option linter.defProp false
set_option maxRecDepth 20000
set_option maxHeartbeats 1000000
namespace Go.Proofs.YtcniiejbcjijjaaDoor
open Go.ChangeShapes Go.WideShapes Go.ChangeAt Go.RowKit Go.Pd Go.Pd.Mg
theorem own : ownKnob Tryd.prog.godebug=none:=by kernel_rfl
theorem laidOut : laidOutB Tryd.prog=true:=by kernel_rfl
theorem h8 : Tryd.prog.globalNamed "witting/postulates.revision"=some 0:=by kernel_rfl
theorem l9 : (Tryd.prog.globals[0]?).map (·.type)= some 49:=by kernel_rfl
theorem fw : Tryd.prog.cellsOf 70=2:=by kernel_rfl
theorem af : Tryd.prog.cellsOf 4=1:=by kernel_rfl
theorem fv : Tryd.prog.cellsOf 69=1:=by kernel_rfl
theorem ft : Tryd.prog.cellsOf 23=1:=by kernel_rfl
abbrev p5 : List (String × DataW Unit):=[("witting/postulates.revision",Rows.laid_witting_postulates_revision)]
theorem qo {W:World} {a:Addr} {c:List Value} (h:W.cells? 0 a 2=some c):∃ v0 v1,c = [v0,v1]/\W.cell? (a.add 0)= some v0/\W.cell? (a.add 1)= some v1:=by
 unfold World.cells? at h
 split at h
 ·simp only [List.range_succ,List.range_zero,List.nil_append,List.cons_append,List.mapM_cons,List.mapM_nil] at h
  cases h0:W.cell? (a.add 0) with
  | none=>simp [h0] at h
  | some v0=>
   cases h1:W.cell? (a.add 1) with
   | none=>simp [h0,h1] at h
   | some v1=>
    simp [h0,h1] at h
    exact⟨v0,v1,h.symm,rfl,rfl⟩
 ·cases h
theorem ud {W:World} {a:Addr} {n:Nat} {b:Bool} {bs:UInt8} {r:List UInt8} {y:DataW (List UInt8) × List MemPlace} {f0:FuncId}
  (hone:((List.range Tryd.prog.funcs.size).filter fun f=>(Tryd.prog.funcs[f]?).any (·.name.toUTF8.data.toList==bs :: r))= [f0])
  (h:(W.cells? 0 a 2).bind (DataW.trod (funcToken Tryd.prog) Tryd.prog W 0 (fun _=>true) true n 70)= some y) (hy:y.1 = .agg [.lit (.bool b),.held (bs :: r)]) :
  W.cell? (a.add 0)= some (.bool b)/\ W.cell? (a.add 1)= some (.func (.func f0) #[] #[]):=by
 obtain⟨c,hc,hy1⟩:=Option.bind_eq_some_iff.1 h
 obtain⟨v0,v1,rfl,h0,h1⟩:=qo hc
 obtain⟨y0,y1,m,rfl,_,t0,t1⟩:=trod_struct2 Tryd.underlying70 hy1
 simp only [DataW.agg.injEq,List.cons.injEq,and_true] at hy
 obtain⟨e0,e1⟩:=hy
 obtain⟨z0,q0⟩:=y0
 obtain⟨z1,q1⟩:=y1
 simp only at e0 e1
 subst e0; subst e1
 simp only [af,fv,List.drop_zero,List.take_succ_cons,List.take_zero,List.drop_succ_cons] at t0 t1
 obtain⟨b',eb,ex⟩:=DataW.trod_bool Tryd.underlying4 t0
 simp only [List.cons.injEq,and_true] at eb
 simp only [Prod.mk.injEq,DataW.lit.injEq,Lit.bool.injEq] at ex
 have ef:=func_of_trod (f0:=f0) Tryd.underlying69 hone t1
 rw [h0,h1,eb,ef,ex.1]
 exact⟨rfl,rfl⟩
theorem vo {W:World} (h:laidMetH Tryd.prog p5 W):kK W fun _=>False:=by
 obtain⟨g,t,cs,fuel,p,hg,ht,hv,hd⟩:=h.funcs (List.mem_singleton.2 rfl)
 obtain rfl:=Option.some.inj (h8.symm.trans hg)
 obtain rfl:=Option.some.inj (l9.symm.trans ht)
 have hd':DataW.trod (funcToken Tryd.prog) Tryd.prog W 0 (fun _=>true) true fuel 49 cs.toList=some (.slice [.agg [.lit (.bool false),.held [119,105,116,116,105,110,103,47,112,111,115,116,117,108,97,116,101,115,46,114,101,118,105,115,105,111,110,36,49]],.agg [.lit (.bool false),.held [119,105,116,116,105,110,103,47,112,111,115,116,117,108,97,116,101,115,46,114,101,118,105,115,105,111,110,36,50]],.agg [.lit (.bool false),.held [119,105,116,116,105,110,103,47,112,111,115,116,117,108,97,116,101,115,46,114,101,118,105,115,105,111,110,36,51]],.agg [.lit (.bool false),.held [119,105,116,116,105,110,103,47,112,111,115,116,117,108,97,116,101,115,46,114,101,118,105,115,105,111,110,36,52]],.agg [.lit (.bool true),.held [119,105,116,116,105,110,103,47,112,111,115,116,117,108,97,116,101,115,46,114,101,118,105,115,105,111,110,36,53]],.agg [.lit (.bool true),.held [119,105,116,116,105,110,103,47,112,111,115,116,117,108,97,116,101,115,46,114,101,118,105,115,105,111,110,36,54]]] [],p):=hd
 rcases DataW.trod_slice Tryd.underlying49 hd' with ⟨_,hx⟩ | ⟨a,len,cap,elems,rest,n,_,hcs,hx,_,hl,hm,hlen,hel,_⟩
 ·simp at hx
 simp only [Prod.mk.injEq,DataW.slice.injEq] at hx
 obtain⟨⟨he,_⟩,_⟩:=hx
 have hl6:elems.length=6:=by
  have:=congrArg List.length he
  simpa using this.symm
 obtain rfl:len=6:=by omega
 rw [fw] at hel
 have hy:∀ i (hi:i<6),∃ y,elems[i]?=some y/\([.agg [.lit (.bool false),.held [119,105,116,116,105,110,103,47,112,111,115,116,117,108,97,116,101,115,46,114,101,118,105,115,105,111,110,36,49]],.agg [.lit (.bool false),.held [119,105,116,116,105,110,103,47,112,111,115,116,117,108,97,116,101,115,46,114,101,118,105,115,105,111,110,36,50]],.agg [.lit (.bool false),.held [119,105,116,116,105,110,103,47,112,111,115,116,117,108,97,116,101,115,46,114,101,118,105,115,105,111,110,36,51]],.agg [.lit (.bool false),.held [119,105,116,116,105,110,103,47,112,111,115,116,117,108,97,116,101,115,46,114,101,118,105,115,105,111,110,36,52]],.agg [.lit (.bool true),.held [119,105,116,116,105,110,103,47,112,111,115,116,117,108,97,116,101,115,46,114,101,118,105,115,105,111,110,36,53]],.agg [.lit (.bool true),.held [119,105,116,116,105,110,103,47,112,111,115,116,117,108,97,116,101,115,46,114,101,118,105,115,105,111,110,36,54]]][i]?)= some y.1:=fun i hi=>by
  have h1:elems[i]?=some elems[i]:=List.getElem?_eq_getElem (by omega)
  refine⟨_,h1,?_⟩
  rw [he,List.getElem?_map,h1]; rfl
 have cell:∀ i,i<6->W.cell? ((a.add (i*2)).add 0)= some (.bool (decide (4<=i)))/\ W.cell? ((a.add (i*2)).add 1)= some (.func (.func (101+i)) #[] #[]):=fun i hi=>by
  obtain⟨y,h1,h2⟩:=hy i hi
  have h3:=hel i hi
  rw [h1] at h3
  match i,hi with
  | 0,_=>exact ud (f0:=101) (by kernel_rfl) h3 (Option.some.inj h2).symm
  | 1,_=>exact ud (f0:=102) (by kernel_rfl) h3 (Option.some.inj h2).symm
  | 2,_=>exact ud (f0:=103) (by kernel_rfl) h3 (Option.some.inj h2).symm
  | 3,_=>exact ud (f0:=104) (by kernel_rfl) h3 (Option.some.inj h2).symm
  | 4,_=>exact ud (f0:=105) (by kernel_rfl) h3 (Option.some.inj h2).symm
  | 5,_=>exact ud (f0:=106) (by kernel_rfl) h3 (Option.some.inj h2).symm
  | _+6,h=>exact absurd h (by omega)
 obtain⟨b,off,spot⟩:=a
 have hspot:spot=none:=by simpa [Addr.add] using World.cell?_spot (cell 0 (by omega)).1
 subst hspot
 refine⟨fun p hp=>absurd (show p ∈ ([]:List (Nat × List Value)) from hp) List.not_mem_nil,fun q hq=>?_⟩
 obtain rfl:=List.mem_singleton.1 (show q ∈ [((0:Nat),D.sl 2 kV)] from hq)
 refine⟨fun h=>h,.slice (some ⟨b,off,none⟩) 6 cap,?_,?_⟩
 ·have:=World.var?_cell hg hv 0
  rw [Array.eq_one_of_toList hcs] at this
  simpa using this
 refine .sl (xX:=kV) (fun i j=>if j=0 then .bool (decide (4<=i)) else .func (.func (101+i)) #[] #[]) (by decide) (fun h=>h) (by simpa [kV] using hl) hm (by decide) (fun i hi j hj=>?_) (fun i hi j hj=>?_)
 ·have hi:i<6:=hi
  have hc:=cell i hi
  rw [Addr.add_lit,Addr.add_lit,Addr.add_lit] at hc
  match j,hj with
  | 0,_=>exact hc.1
  | 1,_=>exact hc.2
  | _+2,h=>exact absurd h (by omega)
 ·have hi:i<6:=hi
  rw [vk hi]
  match j,hj with
  | 0,_=>exact .bool _
  | 1,_=>exact .fn rfl (fun k hk=>absurd hk (Nat.not_lt_zero _))
  | _+2,h=>exact absurd h (by omega)
theorem nz {a:D} (s:tU Tryd.prog 8 3 a):∃ w:Int,a = .int .i64 w:=by
 simp only [tU,Tryd.underlying3,wA,List.cons.injEq,and_true] at s
 exact s
theorem p8 {M:Nat->Prop} {W:World} {v:Value} {a:D} (h:RP M W v a) (s:tU Tryd.prog 8 5 a):∃ n:Nat,n<256/\a = .int .u8 (n:Int):=by
 simp only [tU,Tryd.underlying5,wA,List.cons.injEq,and_true] at s
 obtain⟨n,rfl⟩:=s
 have hf:=h.fact
 simp only [D.fact] at hf
 have e2:IntKind.u8.max=255:=rfl
 have e1:IntKind.u8.min=0:=rfl
 exact⟨n.toNat,by omega,by rw [Int.toNat_of_nonneg (by omega)]⟩
theorem bu {M:Nat->Prop} {W:World} {v:Value} {a:D} (h:RP M W v a) (s:tU Tryd.prog 8 22 a):∃ l,a = .sl 1 (us l):=by
 simp only [tU,Tryd.underlying22,wA,Tryd.underlying23,ft,List.cons.injEq,and_true] at s
 obtain⟨xX,rfl,q⟩:=s
 have hf:=h.fact
 simp only [D.fact] at hf
 obtain⟨l,rfl⟩:=eo q hf.2
 exact⟨l,rfl⟩
theorem oe {n:Int} (h:IntKind.u64.min<=n/\n<=IntKind.u64.max):∃ x:BitVec 64,n=ui x:=by
 have e2:IntKind.u64.max=18446744073709551615:=rfl
 have e1:IntKind.u64.min=0:=rfl
 refine⟨BitVec.ofNat 64 n.toNat,?_⟩
 unfold ui
 rw [BitVec.toNat_ofNat,Nat.mod_eq_of_lt (by omega)]
 omega
theorem vi {M:Nat->Prop} {W:World} {v:Value} {a:D} (h:RP M W v a) (s:tU Tryd.prog 8 24 a):∃ x y:BitVec 64,a = .agg [.int .u64 (ui x),.int .u64 (ui y)]:=by
 simp only [tU,Tryd.underlying24] at s
 obtain⟨ds,rfl,q⟩:=s
 rw [wA] at q
 simp only [Tryd.underlying24,List.replicate,sW,wA,Tryd.underlying23] at q
 obtain⟨a0,b0,rfl,⟨i0,rfl⟩,a1,b1,rfl,⟨i1,rfl⟩,rfl⟩:=q
 have hf:=h.fact
 simp only [D.fact,List.cons_append,List.nil_append,D.tV] at hf
 obtain⟨x,rfl⟩:=oe hf.1
 obtain⟨y,rfl⟩:=oe hf.2.1
 exact⟨x,y,rfl⟩
end Go.Proofs.YtcniiejbcjijjaaDoor
