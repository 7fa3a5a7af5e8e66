/- Part X9. -/
import Derived.Test.YtjklmijiccabfaaGreatRX8
import Derived.Test.YtjklmijiccabfaaGreatRCode
set_option linter.unusedSectionVars false
set_option linter.unusedVariables false
set_option linter.unusedSimpArgs false
set_option linter.defProp false
set_option maxRecDepth 20000
set_option maxHeartbeats 1000000
namespace Go.Pd
open Go Go.Proofs
theorem shlN {n:Nat} (hn:n<=61):shlI .i64 1 (n:Int)= ((2 ^ n:Nat):Int):=shl_one (by omega)
theorem convN {n:Nat} (hn:n<=1000000):IntKind.u64.wrap (n:Int)= (n:Int):=wrap_u64 (by omega)
theorem take_snoc {α:Type} {l:List α} {k:Nat} {d:α} (h:k<l.length):l.take (k+1)= l.take k ++ [l.getD k d]:=by
 rw [List.take_add_one]; simp [List.getD,h]
theorem drop_cons {α:Type} {l:List α} {k:Nat} {d:α} (h:k<l.length):l.drop k=l.getD k d :: l.drop (k+1):=by simp [List.getD,h]
theorem getD_mem {α:Type} {l:List α} {k:Nat} {d:α} (h:k<l.length):l.getD k d ∈ l:=by simp [List.getD,h]
theorem take_all {α:Type} {l:List α} {k:Nat} (h:k=l.length):l.take k=l:=by rw [h,List.take_length]
theorem mx_max (x y:Int):(if x<y then y else x)= max x y:=by rw [Int.max_def]; split <;> split <;> omega
theorem rows_set (k:IntKind) (l:List Int) (i:Nat) (n:Int):(rows k l).set i [.int k n]=rows k (l.set i n):=by simp [rows,List.map_set]
variable [Tabs]
theorem CallT.ret {P:Program} {g:FuncId} {args:List D} {σ σ1 σ':St} {d1 d:D} (hc:CallT P g args σ d1 σ1) (hr:RetV σ.nx σ1 d1 σ' d):CallT P g args σ d σ':=by
 refine⟨hc.ord,fun M0 w ι vals hS hl hv=>(hc.run M0 w ι vals hS hl hv).mono fun e w' hh=>?_⟩
 obtain⟨v,ι1,he,kept,sim,nx,stay,mine,hR⟩:=hh
 rcases hr with ⟨rfl,rfl⟩ | ⟨ρ,r1,r2,r3,r4,r5⟩
 ·exact⟨v,ι1,he,kept,sim,nx,stay,mine,hR⟩
 ·have hlive:∀ p ∈ σ'.objs,∃ ob,σ1.get (ρ p.1)= some ob:=fun p hp=>by
   obtain⟨_,ob,h,_⟩:=r4 p hp
   exact⟨ob,h⟩
  refine⟨v,fun k=>ι1 (ρ k),he,kept,sim.view r4 r5,r1,fun k hk=>?_,fun k o hk=>?_,vw_sound sim hlive _ _ hR r3⟩
  ·show ι1 (ρ k)= ι k
   rw [r2 k hk]; exact stay k hk
  ·obtain⟨ob,h⟩:=hlive _ (look_mem hk)
   exact mine _ _ h
theorem growD_ne {k s:Nat} {els:List (List D)} (h:els ≠ []):growD k s els = .osl k s els.length:=by cases els with
 | nil=>exact absurd rfl h
 | cons e r=>rfl
theorem growO_ne {k s:Nat} {els:List (List D)} (h:els ≠ []):growO k s els = [(k,⟨s,els⟩)]:=by cases els with
 | nil=>exact absurd rfl h
 | cons e r=>rfl
def rl (ll:List (List Int)):List (List D):=ll.map fun l=>[.sl 1 (rows .i64 l)]
theorem rl_len (l:List (List Int)):(rl l).length=l.length:=by simp [rl]
theorem rl_get (l:List (List Int)) {i:Nat} (h:i<l.length):(rl l).getD i [] = [.sl 1 (rows .i64 (l.getD i []))]:=by simp [rl,List.getD,h]
theorem rl_take (l:List (List Int)) (n:Nat):(rl l).take n=rl (l.take n):=by simp [rl,List.map_take]
theorem rl_snoc (l:List (List Int)) (r:List Int):rl l ++ [[.sl 1 (rows .i64 r)]]=rl (l ++ [r]):=by simp [rl]
theorem rl_pure (l:List (List Int)):∀ e ∈ rl l,D.isPureL e=true:=by
 intro e he
 simp only [rl,List.mem_map] at he
 obtain⟨r,_,rfl⟩:=he
 have h:∀ e ∈ rows .i64 r,D.isPureL e=true:=rows_pure _ r
 have:(rows .i64 r).all D.isPureL=true:=List.all_eq_true.2 h
 simp [D.isPureL,D.isPure,this]
theorem CallT.go_fnS {P:Program} {g:FuncId} {fn:Func} {own:List Nat} {N:Nat} {dc:DC} {rs:List DRes} {args:List D} {σ:St} {d:D} {σ':St} (hm:P.follows .mixedOrders=true) (hf:P.funcs[g]?=some fn)
  (hc:codeOf P own fn=some (N,dc,rs)) (hla:args.length<=N)
  (h:D.factL args->wpS ⟨P,N,σ.nx,own⟩ dc (argFr 0 args) σ (bodyQ ⟨P,N,σ.nx,own⟩ rs d σ')):CallT P g args σ d σ':=by
 unfold codeOf at hc
 split at hc
 ·cases hc
 ·rename_i c hb
  split at hc
  ·cases hc
  ·rename_i hname
   split at hc
   ·rename_i dc' rs' h1 h2
    simp at hc
    obtain⟨rfl,rfl,rfl⟩:=hc
    refine CallT.facts ⟨fn,hf,by simpa using hname,by rw [hb]; rfl⟩ fun hfa=>?_
    exact CallT.of_body hm hf hb (by simpa using hname) h1 h2 hla (h hfa)
   ·cases hc
theorem wpS_cut {C} {x y:DC} {f σ Q} (f0:Fr) (σ0:St) (h:wpS C x f σ (thenW (fun f' σ'=>Weak C f' σ' f0 σ0) Q)) (h2:wpS C y f0 σ0 Q):wpS C (.seq x y) f σ Q:=
 wpS_seq (wpS_mono h fun e f' σ' hq=>by cases e with | normal=>exact wpS_weak hq h2 | _=>exact hq)
end Go.Pd

/- Part XG. -/
set_option linter.unusedSectionVars false
set_option linter.unusedVariables false
set_option linter.unusedSimpArgs false
set_option linter.defProp false
set_option maxRecDepth 20000
set_option maxHeartbeats 1000000
namespace Go.Pd
open Go Go.Proofs
section
variable [Tabs]
def mid2Z (C:Cx) (pre mid1:List DOp) (f f1 fd:Fr) (dst2:Option Nat) (mid2 post:List DOp) (Q:Exit->Fr->St->Prop) (f2:Fr) (d2:D) (σ2:St):Prop:=
 preZ C σ2 pre (eqF f1) f/\preZ C σ2 mid1 (eqF f2) fd/\preZ C σ2 mid2 (postZ C post Q σ2) (f2.put dst2 d2)
def mid1Z (C:Cx) (pre:List DOp) (dst:Option Nat) (mid1:List DOp) (dst2:Option Nat) (k2:DK) (mid2 post:List DOp) (Q:Exit->Fr->St->Prop) (f:Fr) (f1:Fr) (d1:D) (σ1:St):Prop:=
 preZ C σ1 pre (eqF f1) f/\preZ C σ1 mid1 (callZ C k2 (mid2Z C pre mid1 f f1 (f1.put dst d1) dst2 mid2 post Q) σ1) (f1.put dst d1)
theorem wpZ_regc {C:Cx} {σ:St} {f:Fr} {Q:Exit->Fr->St->Prop} {pre mid1 mid2 post:List DOp} {dst dst2:Option Nat} {g g2:Option (Nat × Bool)} {k k2:DK} :
  wpZ C (.regc pre ⟨dst,g,k⟩ mid1 ⟨dst2,g2,k2⟩ mid2 post) Q f σ=preZ C σ pre (callZ C k (mid1Z C pre dst mid1 dst2 k2 mid2 post Q f) σ) f:=by
 rw [wpZ_eq]
 show wpD C _ f σ Q=_
 unfold wpD
 rw [preZ_eq,<- preX_eq]
 have:(fun f1=>opV C σ (evO f1) k fun d1 σ1=>preW C σ1 pre f (fun g=>g=f1)/\ preW C σ1 mid1 (f1.put dst d1) fun f2=>opV C σ1 (evO f2) k2 fun d2 σ2=>
   preW C σ2 pre f (fun g=>g=f1)/\ preW C σ2 mid1 (f1.put dst d1) (fun g=>g=f2)/\ preW C σ2 mid2 (f2.put dst2 d2) fun f3=>opsW C post f3 σ2 fun f σ=>Q .normal f σ)= callZ C k (mid1Z C pre dst mid1 dst2 k2 mid2 post Q f) σ:=by
  funext f1
  unfold callZ
  rw [opX_eq]
  congr 1
  funext d1 σ1
  unfold mid1Z
  rw [preZ_eq,preX_eq,preX_eq]
  have e2:(fun f2=>opV C σ1 (evO f2) k2 fun d2 σ2=>
    preW C σ2 pre f (fun g=>g=f1)/\ preW C σ2 mid1 (f1.put dst d1) (fun g=>g=f2)/\ preW C σ2 mid2 (f2.put dst2 d2) fun f3=>opsW C post f3 σ2 fun f σ=>Q .normal f σ)= callZ C k2 (mid2Z C pre mid1 f f1 (f1.put dst d1) dst2 mid2 post Q) σ1:=by
   funext f2
   unfold callZ
   rw [opX_eq]
   congr 1
   funext d2 σ2
   unfold mid2Z postZ
   rw [preZ_eq,opsZ_eq,preX_eq,preX_eq,preX_eq]
   have e3:opsX C post (normK Q)= fun f σ=>opsW C post f σ fun f σ=>Q .normal f σ:=by
    funext f σ; rw [opsX_eq]; rfl
   rw [e3]
   rfl
  rw [e2]
  rfl
 rw [this]
end
end Go.Pd
