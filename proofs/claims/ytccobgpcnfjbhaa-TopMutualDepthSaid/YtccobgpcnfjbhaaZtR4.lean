/- Part R4. -/
import Derived.Test.YtccobgpcnfjbhaaZtB0
import Derived.Test.YtccobgpcnfjbhaaZtMF
set_option linter.unusedSectionVars false
set_option linter.unusedVariables false
set_option linter.unusedSimpArgs false
set_option linter.defProp false
set_option maxRecDepth 20000
set_option maxHeartbeats 1000000
open Go.Proofs.Try
open List renaming length_range->γ,all_eq_true->δ,length_map->ε,mem_cons->ζ,not_mem_nil->η
namespace Go.Pd
open Go Go.Proofs
def tg : FuncId × List D × D × St:=(32,[.agg [.int .i64 4,.sl 3 [[.int .i64 0,.int .i64 5,.int .i64 1],[.int .i64 0,.int .i64 81,.int .i64 1],[.int .i64 1,.int .i64 17,.int .i64 1],[.int .i64 1,.int .i64 273,.int .i64 1]]],.int .i64 0,.sl 1 [[.int .i64 0]]],.xI [.agg [.xP 13 1 2,.xP 14 1 2],.xP 9 1 1],{ nx:=15,xY:=[(14,{ sz:=1,xZ:=[[.int (.u64) 0],[.int (.u64) 0]] }),(13,{ sz:=1,xZ:=[[.xP 7 1 2],[.xP 11 1 2]] }),(11,{ sz:=1,xZ:=[[.int (.i64) 16],[.int (.i64) 16]] }),(9,{ sz:=1,xZ:=[[.int (.i64) 0]] }),(7,{ sz:=1,xZ:=[[.int (.i64) 4],[.int (.i64) 4]] })] })
theorem Y1 : xW prog tg.1 tg.2.1 tQ tg.2.2.1 tg.2.2.2:=yU xQ 40 (by kernel_rfl)
def ti : FuncId × List D × D × St:=(32,[.agg [.int .i64 4,.sl 3 [[.int .i64 0,.int .i64 5,.int .i64 1],[.int .i64 0,.int .i64 81,.int .i64 1],[.int .i64 1,.int .i64 17,.int .i64 1],[.int .i64 1,.int .i64 273,.int .i64 1]]],.int .i64 0,.sl 1 [[.int .i64 0],[.int .i64 0]]],.xI [.agg [.xP 20 1 3,.xP 21 1 3],.xP 16 1 2],{ nx:=22,xY:=[(21,{ sz:=1,xZ:=[[.int (.u64) 0],[.int (.u64) 0],[.int (.u64) 0]] }),(20,{ sz:=1,xZ:=[[.xP 7 1 2],[.xP 11 1 2],[.xP 18 1 2]] }),(18,{ sz:=1,xZ:=[[.int (.i64) 64],[.int (.i64) 64]] }),(16,{ sz:=1,xZ:=[[.int (.i64) 0],[.int (.i64) 0]] }),(11,{ sz:=1,xZ:=[[.int (.i64) 16],[.int (.i64) 16]] }),(7,{ sz:=1,xZ:=[[.int (.i64) 4],[.int (.i64) 4]] })] })
theorem Y2 : xW prog ti.1 ti.2.1 tQ ti.2.2.1 ti.2.2.2:=yU xQ 40 (by kernel_rfl)
def tj : FuncId × List D × D × St:=(32,[.agg [.int .i64 4,.sl 3 [[.int .i64 0,.int .i64 5,.int .i64 1],[.int .i64 0,.int .i64 81,.int .i64 1],[.int .i64 1,.int .i64 17,.int .i64 1],[.int .i64 1,.int .i64 273,.int .i64 1]]],.int .i64 0,.sl 1 [[.int .i64 0],[.int .i64 0],[.int .i64 0]]],.xI [.agg [.xP 27 1 4,.xP 28 1 4],.xP 23 1 3],{ nx:=29,xY:=[(28,{ sz:=1,xZ:=[[.int (.u64) 0],[.int (.u64) 0],[.int (.u64) 0],[.int (.u64) 0]] }),(27,{ sz:=1,xZ:=[[.xP 7 1 2],[.xP 11 1 2],[.xP 18 1 2],[.xP 25 1 2]] }),(25,{ sz:=1,xZ:=[[.int (.i64) 256],[.int (.i64) 256]] }),(23,{ sz:=1,xZ:=[[.int (.i64) 0],[.int (.i64) 0],[.int (.i64) 0]] }),(18,{ sz:=1,xZ:=[[.int (.i64) 64],[.int (.i64) 64]] }),(11,{ sz:=1,xZ:=[[.int (.i64) 16],[.int (.i64) 16]] }),(7,{ sz:=1,xZ:=[[.int (.i64) 4],[.int (.i64) 4]] })] })
theorem Y3 : xW prog tj.1 tj.2.1 tQ tj.2.2.1 tj.2.2.2:=yU xQ 40 (by kernel_rfl)
def tl : FuncId × List D × D × St:=(32,[.agg [.int .i64 4,.sl 3 [[.int .i64 0,.int .i64 5,.int .i64 1],[.int .i64 0,.int .i64 81,.int .i64 1],[.int .i64 1,.int .i64 17,.int .i64 1],[.int .i64 1,.int .i64 273,.int .i64 1]]],.int .i64 0,.sl 1 [[.int .i64 0],[.int .i64 0],[.int .i64 0],[.int .i64 0]]],.xI [.agg [.xP 34 1 5,.xP 35 1 5],.xP 30 1 4],{ nx:=36,xY:=[(35,{ sz:=1,xZ:=[[.int (.u64) 0],[.int (.u64) 0],[.int (.u64) 0],[.int (.u64) 0],[.int (.u64) 0]] }),(34,{ sz:=1,xZ:=[[.xP 7 1 2],[.xP 11 1 2],[.xP 18 1 2],[.xP 25 1 2],[.xP 32 1 2]] }),(32,{ sz:=1,xZ:=[[.int (.i64) 1024],[.int (.i64) 1024]] }),(30,{ sz:=1,xZ:=[[.int (.i64) 0],[.int (.i64) 0],[.int (.i64) 0],[.int (.i64) 0]] }),(25,{ sz:=1,xZ:=[[.int (.i64) 256],[.int (.i64) 256]] }),(18,{ sz:=1,xZ:=[[.int (.i64) 64],[.int (.i64) 64]] }),(11,{ sz:=1,xZ:=[[.int (.i64) 16],[.int (.i64) 16]] }),(7,{ sz:=1,xZ:=[[.int (.i64) 4],[.int (.i64) 4]] })] })
theorem Y4 : xW prog tl.1 tl.2.1 tQ tl.2.2.1 tl.2.2.2:=yU xQ 40 (by kernel_rfl)
def tm : FuncId × List D × D × St:=(32,[.agg [.int .i64 4,.sl 3 [[.int .i64 0,.int .i64 5,.int .i64 1],[.int .i64 0,.int .i64 81,.int .i64 1],[.int .i64 1,.int .i64 17,.int .i64 1],[.int .i64 1,.int .i64 273,.int .i64 1]]],.int .i64 1,.sl 1 [[.int .i64 0]]],.xI [.agg [.xP 13 1 2,.xP 14 1 2],.xP 9 1 1],{ nx:=15,xY:=[(14,{ sz:=1,xZ:=[[.int (.u64) 1],[.int (.u64) 1]] }),(13,{ sz:=1,xZ:=[[.xP 7 1 2],[.xP 11 1 2]] }),(11,{ sz:=1,xZ:=[[.int (.i64) 20],[.int (.i64) 17]] }),(9,{ sz:=1,xZ:=[[.int (.i64) 1]] }),(7,{ sz:=1,xZ:=[[.int (.i64) 5],[.int (.i64) 4]] })] })
theorem Y5 : xW prog tm.1 tm.2.1 tQ tm.2.2.1 tm.2.2.2:=yU xQ 40 (by kernel_rfl)
def tn : FuncId × List D × D × St:=(32,[.agg [.int .i64 4,.sl 3 [[.int .i64 0,.int .i64 5,.int .i64 1],[.int .i64 0,.int .i64 81,.int .i64 1],[.int .i64 1,.int .i64 17,.int .i64 1],[.int .i64 1,.int .i64 273,.int .i64 1]]],.int .i64 1,.sl 1 [[.int .i64 0],[.int .i64 0]]],.xI [.agg [.xP 20 1 3,.xP 21 1 3],.xP 16 1 2],{ nx:=22,xY:=[(21,{ sz:=1,xZ:=[[.int (.u64) 1],[.int (.u64) 1],[.int (.u64) 1]] }),(20,{ sz:=1,xZ:=[[.xP 7 1 2],[.xP 11 1 2],[.xP 18 1 2]] }),(18,{ sz:=1,xZ:=[[.int (.i64) 81],[.int (.i64) 68]] }),(16,{ sz:=1,xZ:=[[.int (.i64) 1],[.int (.i64) 2]] }),(11,{ sz:=1,xZ:=[[.int (.i64) 20],[.int (.i64) 17]] }),(7,{ sz:=1,xZ:=[[.int (.i64) 5],[.int (.i64) 4]] })] })
theorem Y6 : xW prog tn.1 tn.2.1 tQ tn.2.2.1 tn.2.2.2:=yU xQ 40 (by kernel_rfl)
def tp : FuncId × List D × D × St:=(32,[.agg [.int .i64 4,.sl 3 [[.int .i64 0,.int .i64 5,.int .i64 1],[.int .i64 0,.int .i64 81,.int .i64 1],[.int .i64 1,.int .i64 17,.int .i64 1],[.int .i64 1,.int .i64 273,.int .i64 1]]],.int .i64 1,.sl 1 [[.int .i64 0],[.int .i64 0],[.int .i64 0]]],.xI [.agg [.xP 27 1 4,.xP 28 1 4],.xP 23 1 3],{ nx:=29,xY:=[(28,{ sz:=1,xZ:=[[.int (.u64) 1],[.int (.u64) 1],[.int (.u64) 1],[.int (.u64) 1]] }),(27,{ sz:=1,xZ:=[[.xP 7 1 2],[.xP 11 1 2],[.xP 18 1 2],[.xP 25 1 2]] }),(25,{ sz:=1,xZ:=[[.int (.i64) 324],[.int (.i64) 273]] }),(23,{ sz:=1,xZ:=[[.int (.i64) 1],[.int (.i64) 2],[.int (.i64) 1]] }),(18,{ sz:=1,xZ:=[[.int (.i64) 81],[.int (.i64) 68]] }),(11,{ sz:=1,xZ:=[[.int (.i64) 20],[.int (.i64) 17]] }),(7,{ sz:=1,xZ:=[[.int (.i64) 5],[.int (.i64) 4]] })] })
theorem Y7 : xW prog tp.1 tp.2.1 tQ tp.2.2.1 tp.2.2.2:=yU xQ 40 (by kernel_rfl)
def tq : FuncId × List D × D × St:=(32,[.agg [.int .i64 4,.sl 3 [[.int .i64 0,.int .i64 5,.int .i64 1],[.int .i64 0,.int .i64 81,.int .i64 1],[.int .i64 1,.int .i64 17,.int .i64 1],[.int .i64 1,.int .i64 273,.int .i64 1]]],.int .i64 1,.sl 1 [[.int .i64 0],[.int .i64 0],[.int .i64 0],[.int .i64 0]]],.xI [.agg [.xP 34 1 5,.xP 35 1 5],.xP 30 1 4],{ nx:=36,xY:=[(35,{ sz:=1,xZ:=[[.int (.u64) 1],[.int (.u64) 1],[.int (.u64) 1],[.int (.u64) 1],[.int (.u64) 1]] }),(34,{ sz:=1,xZ:=[[.xP 7 1 2],[.xP 11 1 2],[.xP 18 1 2],[.xP 25 1 2],[.xP 32 1 2]] }),(32,{ sz:=1,xZ:=[[.int (.i64) 1297],[.int (.i64) 1092]] }),(30,{ sz:=1,xZ:=[[.int (.i64) 1],[.int (.i64) 2],[.int (.i64) 1],[.int (.i64) 2]] }),(25,{ sz:=1,xZ:=[[.int (.i64) 324],[.int (.i64) 273]] }),(18,{ sz:=1,xZ:=[[.int (.i64) 81],[.int (.i64) 68]] }),(11,{ sz:=1,xZ:=[[.int (.i64) 20],[.int (.i64) 17]] }),(7,{ sz:=1,xZ:=[[.int (.i64) 5],[.int (.i64) 4]] })] })
theorem Y8 : xW prog tq.1 tq.2.1 tQ tq.2.2.1 tq.2.2.2:=yU xQ 40 (by kernel_rfl)
def tt : FuncId × List D × D × St:=(32,[.agg [.int .i64 4,.sl 3 [[.int .i64 0,.int .i64 5,.int .i64 1],[.int .i64 0,.int .i64 81,.int .i64 1],[.int .i64 1,.int .i64 17,.int .i64 1],[.int .i64 1,.int .i64 273,.int .i64 1]]],.int .i64 1,.sl 1 [[.int .i64 0],[.int .i64 0],[.int .i64 0],[.int .i64 2]]],.xI [.agg [.xP 34 1 5,.xP 35 1 5],.xP 30 1 4],{ nx:=36,xY:=[(35,{ sz:=1,xZ:=[[.int (.u64) 1],[.int (.u64) 1],[.int (.u64) 1],[.int (.u64) 1],[.int (.u64) 1]] }),(34,{ sz:=1,xZ:=[[.xP 7 1 2],[.xP 11 1 2],[.xP 18 1 2],[.xP 25 1 2],[.xP 32 1 2]] }),(32,{ sz:=1,xZ:=[[.int (.i64) 1296],[.int (.i64) 1092]] }),(30,{ sz:=1,xZ:=[[.int (.i64) 1],[.int (.i64) 2],[.int (.i64) 1],[.int (.i64) 2]] }),(25,{ sz:=1,xZ:=[[.int (.i64) 324],[.int (.i64) 273]] }),(18,{ sz:=1,xZ:=[[.int (.i64) 81],[.int (.i64) 68]] }),(11,{ sz:=1,xZ:=[[.int (.i64) 20],[.int (.i64) 17]] }),(7,{ sz:=1,xZ:=[[.int (.i64) 5],[.int (.i64) 4]] })] })
theorem Y9 : xW prog tt.1 tt.2.1 tQ tt.2.2.1 tt.2.2.2:=yU xQ 40 (by kernel_rfl)
def tu : FuncId × List D × D × St:=(32,[.agg [.int .i64 4,.sl 3 [[.int .i64 0,.int .i64 5,.int .i64 1],[.int .i64 0,.int .i64 81,.int .i64 1],[.int .i64 1,.int .i64 17,.int .i64 1],[.int .i64 1,.int .i64 273,.int .i64 1]]],.int .i64 1,.sl 1 [[.int .i64 0],[.int .i64 0],[.int .i64 1],[.int .i64 0]]],.xI [.agg [.xP 34 1 5,.xP 35 1 5],.xP 30 1 4],{ nx:=36,xY:=[(35,{ sz:=1,xZ:=[[.int (.u64) 1],[.int (.u64) 1],[.int (.u64) 1],[.int (.u64) 1],[.int (.u64) 1]] }),(34,{ sz:=1,xZ:=[[.xP 7 1 2],[.xP 11 1 2],[.xP 18 1 2],[.xP 25 1 2],[.xP 32 1 2]] }),(32,{ sz:=1,xZ:=[[.int (.i64) 1296],[.int (.i64) 1088]] }),(30,{ sz:=1,xZ:=[[.int (.i64) 1],[.int (.i64) 2],[.int (.i64) 1],[.int (.i64) 0]] }),(25,{ sz:=1,xZ:=[[.int (.i64) 324],[.int (.i64) 272]] }),(18,{ sz:=1,xZ:=[[.int (.i64) 81],[.int (.i64) 68]] }),(11,{ sz:=1,xZ:=[[.int (.i64) 20],[.int (.i64) 17]] }),(7,{ sz:=1,xZ:=[[.int (.i64) 5],[.int (.i64) 4]] })] })
theorem YA : xW prog tu.1 tu.2.1 tQ tu.2.2.1 tu.2.2.2:=yU xQ 40 (by kernel_rfl)
def cT : FuncId × List D × D × St:=(32,[.agg [.int .i64 4,.sl 3 [[.int .i64 0,.int .i64 5,.int .i64 1],[.int .i64 0,.int .i64 81,.int .i64 1],[.int .i64 1,.int .i64 17,.int .i64 1],[.int .i64 1,.int .i64 273,.int .i64 1]]],.int .i64 1,.sl 1 [[.int .i64 0],[.int .i64 2],[.int .i64 0]]],.xI [.agg [.xP 27 1 4,.xP 28 1 4],.xP 23 1 3],{ nx:=29,xY:=[(28,{ sz:=1,xZ:=[[.int (.u64) 1],[.int (.u64) 1],[.int (.u64) 1],[.int (.u64) 1]] }),(27,{ sz:=1,xZ:=[[.xP 7 1 2],[.xP 11 1 2],[.xP 18 1 2],[.xP 25 1 2]] }),(25,{ sz:=1,xZ:=[[.int (.i64) 320],[.int (.i64) 272]] }),(23,{ sz:=1,xZ:=[[.int (.i64) 1],[.int (.i64) 2],[.int (.i64) 0]] }),(18,{ sz:=1,xZ:=[[.int (.i64) 80],[.int (.i64) 68]] }),(11,{ sz:=1,xZ:=[[.int (.i64) 20],[.int (.i64) 17]] }),(7,{ sz:=1,xZ:=[[.int (.i64) 5],[.int (.i64) 4]] })] })
theorem p4 : xW prog cT.1 cT.2.1 tQ cT.2.2.1 cT.2.2.2:=yU xQ 40 (by kernel_rfl)
def cU : FuncId × List D × D × St:=(32,[.agg [.int .i64 4,.sl 3 [[.int .i64 0,.int .i64 5,.int .i64 1],[.int .i64 0,.int .i64 81,.int .i64 1],[.int .i64 1,.int .i64 17,.int .i64 1],[.int .i64 1,.int .i64 273,.int .i64 1]]],.int .i64 1,.sl 1 [[.int .i64 0],[.int .i64 2],[.int .i64 0],[.int .i64 0]]],.xI [.agg [.xP 34 1 5,.xP 35 1 5],.xP 30 1 4],{ nx:=36,xY:=[(35,{ sz:=1,xZ:=[[.int (.u64) 1],[.int (.u64) 1],[.int (.u64) 1],[.int (.u64) 1],[.int (.u64) 1]] }),(34,{ sz:=1,xZ:=[[.xP 7 1 2],[.xP 11 1 2],[.xP 18 1 2],[.xP 25 1 2],[.xP 32 1 2]] }),(32,{ sz:=1,xZ:=[[.int (.i64) 1280],[.int (.i64) 1088]] }),(30,{ sz:=1,xZ:=[[.int (.i64) 1],[.int (.i64) 2],[.int (.i64) 0],[.int (.i64) 0]] }),(25,{ sz:=1,xZ:=[[.int (.i64) 320],[.int (.i64) 272]] }),(18,{ sz:=1,xZ:=[[.int (.i64) 80],[.int (.i64) 68]] }),(11,{ sz:=1,xZ:=[[.int (.i64) 20],[.int (.i64) 17]] }),(7,{ sz:=1,xZ:=[[.int (.i64) 5],[.int (.i64) 4]] })] })
theorem p5 : xW prog cU.1 cU.2.1 tQ cU.2.2.1 cU.2.2.2:=yU xQ 40 (by kernel_rfl)
def cV : FuncId × List D × D × St:=(32,[.agg [.int .i64 4,.sl 3 [[.int .i64 0,.int .i64 5,.int .i64 1],[.int .i64 0,.int .i64 81,.int .i64 1],[.int .i64 1,.int .i64 17,.int .i64 1],[.int .i64 1,.int .i64 273,.int .i64 1]]],.int .i64 1,.sl 1 [[.int .i64 1],[.int .i64 0]]],.xI [.agg [.xP 20 1 3,.xP 21 1 3],.xP 16 1 2],{ nx:=22,xY:=[(21,{ sz:=1,xZ:=[[.int (.u64) 1],[.int (.u64) 1],[.int (.u64) 1]] }),(20,{ sz:=1,xZ:=[[.xP 7 1 2],[.xP 11 1 2],[.xP 18 1 2]] }),(18,{ sz:=1,xZ:=[[.int (.i64) 80],[.int (.i64) 64]] }),(16,{ sz:=1,xZ:=[[.int (.i64) 1],[.int (.i64) 0]] }),(11,{ sz:=1,xZ:=[[.int (.i64) 20],[.int (.i64) 16]] }),(7,{ sz:=1,xZ:=[[.int (.i64) 5],[.int (.i64) 4]] })] })
theorem p6 : xW prog cV.1 cV.2.1 tQ cV.2.2.1 cV.2.2.2:=yU xQ 40 (by kernel_rfl)
def cW : FuncId × List D × D × St:=(32,[.agg [.int .i64 4,.sl 3 [[.int .i64 0,.int .i64 5,.int .i64 1],[.int .i64 0,.int .i64 81,.int .i64 1],[.int .i64 1,.int .i64 17,.int .i64 1],[.int .i64 1,.int .i64 273,.int .i64 1]]],.int .i64 1,.sl 1 [[.int .i64 1],[.int .i64 0],[.int .i64 0]]],.xI [.agg [.xP 27 1 4,.xP 28 1 4],.xP 23 1 3],{ nx:=29,xY:=[(28,{ sz:=1,xZ:=[[.int (.u64) 1],[.int (.u64) 1],[.int (.u64) 1],[.int (.u64) 1]] }),(27,{ sz:=1,xZ:=[[.xP 7 1 2],[.xP 11 1 2],[.xP 18 1 2],[.xP 25 1 2]] }),(25,{ sz:=1,xZ:=[[.int (.i64) 320],[.int (.i64) 256]] }),(23,{ sz:=1,xZ:=[[.int (.i64) 1],[.int (.i64) 0],[.int (.i64) 0]] }),(18,{ sz:=1,xZ:=[[.int (.i64) 80],[.int (.i64) 64]] }),(11,{ sz:=1,xZ:=[[.int (.i64) 20],[.int (.i64) 16]] }),(7,{ sz:=1,xZ:=[[.int (.i64) 5],[.int (.i64) 4]] })] })
theorem p7 : xW prog cW.1 cW.2.1 tQ cW.2.2.1 cW.2.2.2:=yU xQ 40 (by kernel_rfl)
def cZ : FuncId × List D × D × St:=(32,[.agg [.int .i64 4,.sl 3 [[.int .i64 0,.int .i64 5,.int .i64 1],[.int .i64 0,.int .i64 81,.int .i64 1],[.int .i64 1,.int .i64 17,.int .i64 1],[.int .i64 1,.int .i64 273,.int .i64 1]]],.int .i64 1,.sl 1 [[.int .i64 1],[.int .i64 0],[.int .i64 0],[.int .i64 0]]],.xI [.agg [.xP 34 1 5,.xP 35 1 5],.xP 30 1 4],{ nx:=36,xY:=[(35,{ sz:=1,xZ:=[[.int (.u64) 1],[.int (.u64) 1],[.int (.u64) 1],[.int (.u64) 1],[.int (.u64) 1]] }),(34,{ sz:=1,xZ:=[[.xP 7 1 2],[.xP 11 1 2],[.xP 18 1 2],[.xP 25 1 2],[.xP 32 1 2]] }),(32,{ sz:=1,xZ:=[[.int (.i64) 1280],[.int (.i64) 1024]] }),(30,{ sz:=1,xZ:=[[.int (.i64) 1],[.int (.i64) 0],[.int (.i64) 0],[.int (.i64) 0]] }),(25,{ sz:=1,xZ:=[[.int (.i64) 320],[.int (.i64) 256]] }),(18,{ sz:=1,xZ:=[[.int (.i64) 80],[.int (.i64) 64]] }),(11,{ sz:=1,xZ:=[[.int (.i64) 20],[.int (.i64) 16]] }),(7,{ sz:=1,xZ:=[[.int (.i64) 5],[.int (.i64) 4]] })] })
theorem p8 : xW prog cZ.1 cZ.2.1 tQ cZ.2.2.1 cZ.2.2.2:=yU xQ 40 (by kernel_rfl)
def RO : eC:=[tg,ti,tj,tl,tm,tn,tp,tq,tt,tu,cT,cU,cV,cW,cZ]
theorem Uy : qM RO:=λm h=>by
 simp only [RO,ζ,η,or_false] at h
 rcases h with rfl | rfl | rfl | rfl | rfl | rfl | rfl | rfl | rfl | rfl | rfl | rfl | rfl | rfl | rfl
 ·exact Y1
 ·exact Y2
 ·exact Y3
 ·exact Y4
 ·exact Y5
 ·exact Y6
 ·exact Y7
 ·exact Y8
 ·exact Y9
 ·exact YA
 ·exact p4
 ·exact p5
 ·exact p6
 ·exact p7
 ·exact p8
theorem SR : xK prog 7 [.agg [.int .i64 4,.sl 3 [[.int .i64 0,.int .i64 5,.int .i64 1],[.int .i64 0,.int .i64 81,.int .i64 1],[.int .i64 1,.int .i64 17,.int .i64 1],[.int .i64 1,.int .i64 273,.int .i64 1]]]] (.xI [.agg [.int .i64 2,.int .i64 1,.int .i64 5,.sl 2 [[.sl 1 [[.sl 1 [[.int .i64 4],[.int .i64 4]]],[.sl 1 [[.int .i64 16],[.int .i64 16]]],[.sl 1 [[.int .i64 64],[.int .i64 64]]],[.sl 1 [[.int .i64 256],[.int .i64 256]]],[.sl 1 [[.int .i64 1024],[.int .i64 1024]]]],.sl 1 [[.int .u64 0],[.int .u64 0],[.int .u64 0],[.int .u64 0],[.int .u64 0]]],[.sl 1 [[.sl 1 [[.int .i64 5],[.int .i64 4]]],[.sl 1 [[.int .i64 20],[.int .i64 17]]],[.sl 1 [[.int .i64 81],[.int .i64 68]]],[.sl 1 [[.int .i64 324],[.int .i64 273]]],[.sl 1 [[.int .i64 1297],[.int .i64 1092]]]],.sl 1 [[.int .u64 1],[.int .u64 1],[.int .u64 1],[.int .u64 1],[.int .u64 1]]],[.sl 1 [[.sl 1 [[.int .i64 5],[.int .i64 4]]],[.sl 1 [[.int .i64 20],[.int .i64 17]]],[.sl 1 [[.int .i64 81],[.int .i64 68]]],[.sl 1 [[.int .i64 324],[.int .i64 273]]],[.sl 1 [[.int .i64 1296],[.int .i64 1092]]]],.sl 1 [[.int .u64 1],[.int .u64 1],[.int .u64 1],[.int .u64 1],[.int .u64 1]]],[.sl 1 [[.sl 1 [[.int .i64 5],[.int .i64 4]]],[.sl 1 [[.int .i64 20],[.int .i64 17]]],[.sl 1 [[.int .i64 81],[.int .i64 68]]],[.sl 1 [[.int .i64 324],[.int .i64 272]]],[.sl 1 [[.int .i64 1296],[.int .i64 1088]]]],.sl 1 [[.int .u64 1],[.int .u64 1],[.int .u64 1],[.int .u64 1],[.int .u64 1]]],[.sl 1 [[.sl 1 [[.int .i64 5],[.int .i64 4]]],[.sl 1 [[.int .i64 20],[.int .i64 17]]],[.sl 1 [[.int .i64 80],[.int .i64 68]]],[.sl 1 [[.int .i64 320],[.int .i64 272]]],[.sl 1 [[.int .i64 1280],[.int .i64 1088]]]],.sl 1 [[.int .u64 1],[.int .u64 1],[.int .u64 1],[.int .u64 1],[.int .u64 1]]],[.sl 1 [[.sl 1 [[.int .i64 5],[.int .i64 4]]],[.sl 1 [[.int .i64 20],[.int .i64 16]]],[.sl 1 [[.int .i64 80],[.int .i64 64]]],[.sl 1 [[.int .i64 320],[.int .i64 256]]],[.sl 1 [[.int .i64 1280],[.int .i64 1024]]]],.sl 1 [[.int .u64 1],[.int .u64 1],[.int .u64 1],[.int .u64 1],[.int .u64 1]]]]],.int .i64 0]):=xO (xR Uy xQ) 40 (by kernel_rfl)
def lR : D:=.agg [.int .i64 2,.int .i64 1,.int .i64 5,.sl 2 [[.sl 1 [[.sl 1 [[.int .i64 4],[.int .i64 4]]],[.sl 1 [[.int .i64 16],[.int .i64 16]]],[.sl 1 [[.int .i64 64],[.int .i64 64]]],[.sl 1 [[.int .i64 256],[.int .i64 256]]],[.sl 1 [[.int .i64 1024],[.int .i64 1024]]]],.sl 1 [[.int .u64 0],[.int .u64 0],[.int .u64 0],[.int .u64 0],[.int .u64 0]]],[.sl 1 [[.sl 1 [[.int .i64 5],[.int .i64 4]]],[.sl 1 [[.int .i64 20],[.int .i64 17]]],[.sl 1 [[.int .i64 81],[.int .i64 68]]],[.sl 1 [[.int .i64 324],[.int .i64 273]]],[.sl 1 [[.int .i64 1297],[.int .i64 1092]]]],.sl 1 [[.int .u64 1],[.int .u64 1],[.int .u64 1],[.int .u64 1],[.int .u64 1]]],[.sl 1 [[.sl 1 [[.int .i64 5],[.int .i64 4]]],[.sl 1 [[.int .i64 20],[.int .i64 17]]],[.sl 1 [[.int .i64 81],[.int .i64 68]]],[.sl 1 [[.int .i64 324],[.int .i64 273]]],[.sl 1 [[.int .i64 1296],[.int .i64 1092]]]],.sl 1 [[.int .u64 1],[.int .u64 1],[.int .u64 1],[.int .u64 1],[.int .u64 1]]],[.sl 1 [[.sl 1 [[.int .i64 5],[.int .i64 4]]],[.sl 1 [[.int .i64 20],[.int .i64 17]]],[.sl 1 [[.int .i64 81],[.int .i64 68]]],[.sl 1 [[.int .i64 324],[.int .i64 272]]],[.sl 1 [[.int .i64 1296],[.int .i64 1088]]]],.sl 1 [[.int .u64 1],[.int .u64 1],[.int .u64 1],[.int .u64 1],[.int .u64 1]]],[.sl 1 [[.sl 1 [[.int .i64 5],[.int .i64 4]]],[.sl 1 [[.int .i64 20],[.int .i64 17]]],[.sl 1 [[.int .i64 80],[.int .i64 68]]],[.sl 1 [[.int .i64 320],[.int .i64 272]]],[.sl 1 [[.int .i64 1280],[.int .i64 1088]]]],.sl 1 [[.int .u64 1],[.int .u64 1],[.int .u64 1],[.int .u64 1],[.int .u64 1]]],[.sl 1 [[.sl 1 [[.int .i64 5],[.int .i64 4]]],[.sl 1 [[.int .i64 20],[.int .i64 16]]],[.sl 1 [[.int .i64 80],[.int .i64 64]]],[.sl 1 [[.int .i64 320],[.int .i64 256]]],[.sl 1 [[.int .i64 1280],[.int .i64 1024]]]],.sl 1 [[.int .u64 1],[.int .u64 1],[.int .u64 1],[.int .u64 1],[.int .u64 1]]]]]
def cI : FuncId × List D × D × St:=(35,[lR],.int (.i64) 0,{ nx:=13,xY:=[] })
theorem b9 : xW prog cI.1 cI.2.1 tQ cI.2.2.1 cI.2.2.2:=yU xQ 60 (by kernel_rfl)
def cJ : FuncId × List D × D × St:=(97,[lR],.ref 2 6 0 0,{ nx:=159,xY:=[(158,{ sz:=2,xZ:=[[.int (.i64) 0,.int (.i64) 0],[.int (.i64) 0,.int (.i64) 1],[.int (.i64) 0,.int (.i64) 2],[.int (.i64) 0,.int (.i64) 3],[.int (.i64) 0,.int (.i64) 4],[.int (.i64) 1,.int (.i64) 0],[.int (.i64) 1,.int (.i64) 1],[.int (.i64) 1,.int (.i64) 2],[.int (.i64) 1,.int (.i64) 3],[.int (.i64) 1,.int (.i64) 4],[.int (.i64) 2,.int (.i64) 0],[.int (.i64) 2,.int (.i64) 1],[.int (.i64) 2,.int (.i64) 2],[.int (.i64) 2,.int (.i64) 3],[.int (.i64) 2,.int (.i64) 4],[.int (.i64) 3,.int (.i64) 0],[.int (.i64) 3,.int (.i64) 1],[.int (.i64) 3,.int (.i64) 2],[.int (.i64) 3,.int (.i64) 3],[.int (.i64) 3,.int (.i64) 4],[.int (.i64) 4,.int (.i64) 0],[.int (.i64) 4,.int (.i64) 1],[.int (.i64) 4,.int (.i64) 2],[.int (.i64) 4,.int (.i64) 3],[.int (.i64) 4,.int (.i64) 4],[.int (.i64) 5,.int (.i64) 0],[.int (.i64) 5,.int (.i64) 1],[.int (.i64) 5,.int (.i64) 2],[.int (.i64) 5,.int (.i64) 3],[.int (.i64) 5,.int (.i64) 4]] }),(157,{ sz:=1,xZ:=[[.int (.i64) 4],[.int (.i64) 29]] }),(155,{ sz:=1,xZ:=[[.int (.i64) 24],[.int (.i64) 29]] }),(152,{ sz:=1,xZ:=[[.int (.i64) 3],[.int (.i64) 28]] }),(150,{ sz:=1,xZ:=[[.int (.i64) 23],[.int (.i64) 28]] }),(147,{ sz:=1,xZ:=[[.int (.i64) 2],[.int (.i64) 27]] }),(145,{ sz:=1,xZ:=[[.int (.i64) 22],[.int (.i64) 27]] }),(142,{ sz:=1,xZ:=[[.int (.i64) 1],[.int (.i64) 26]] }),(140,{ sz:=1,xZ:=[[.int (.i64) 6],[.int (.i64) 11],[.int (.i64) 16],[.int (.i64) 21],[.int (.i64) 26]] }),(137,{ sz:=1,xZ:=[[.int (.i64) 0],[.int (.i64) 5],[.int (.i64) 10],[.int (.i64) 15],[.int (.i64) 20],[.int (.i64) 25]] }),(135,{ sz:=1,xZ:=[[.int (.i64) 5],[.int (.i64) 10],[.int (.i64) 15],[.int (.i64) 20],[.int (.i64) 25]] }),(131,{ sz:=1,xZ:=[[.int (.i64) 19],[.int (.i64) 24]] }),(126,{ sz:=1,xZ:=[[.int (.i64) 18],[.int (.i64) 23]] }),(121,{ sz:=1,xZ:=[[.int (.i64) 7],[.int (.i64) 12],[.int (.i64) 17],[.int (.i64) 22]] }),(116,{ sz:=1,xZ:=[[.int (.i64) 6],[.int (.i64) 11],[.int (.i64) 16],[.int (.i64) 21]] }),(103,{ sz:=1,xZ:=[[.int (.i64) 14],[.int (.i64) 19]] }),(98,{ sz:=1,xZ:=[[.int (.i64) 8],[.int (.i64) 13],[.int (.i64) 18]] }),(93,{ sz:=1,xZ:=[[.int (.i64) 7],[.int (.i64) 12],[.int (.i64) 17]] }),(79,{ sz:=1,xZ:=[[.int (.i64) 9],[.int (.i64) 14]] }),(74,{ sz:=1,xZ:=[[.int (.i64) 8],[.int (.i64) 13]] }),(51,{ sz:=1,xZ:=[[.int (.i64) 9]] }),(25,{ sz:=1,xZ:=[[.int (.i64) 4]] }),(20,{ sz:=1,xZ:=[[.int (.i64) 3]] }),(15,{ sz:=1,xZ:=[[.int (.i64) 2]] }),(10,{ sz:=1,xZ:=[[.int (.i64) 1]] }),(5,{ sz:=1,xZ:=[[.int (.i64) 0]] }),(2,{ sz:=6,xZ:=[[.int (.i64) 2,.int (.i64) 1,.int (.i64) 5,.sl 2 [[.sl 1 [[.sl 1 [[.int (.i64) 4],[.int (.i64) 4]]],[.sl 1 [[.int (.i64) 16],[.int (.i64) 16]]],[.sl 1 [[.int (.i64) 64],[.int (.i64) 64]]],[.sl 1 [[.int (.i64) 256],[.int (.i64) 256]]],[.sl 1 [[.int (.i64) 1024],[.int (.i64) 1024]]]],.sl 1 [[.int (.u64) 0],[.int (.u64) 0],[.int (.u64) 0],[.int (.u64) 0],[.int (.u64) 0]]],[.sl 1 [[.sl 1 [[.int (.i64) 5],[.int (.i64) 4]]],[.sl 1 [[.int (.i64) 20],[.int (.i64) 17]]],[.sl 1 [[.int (.i64) 81],[.int (.i64) 68]]],[.sl 1 [[.int (.i64) 324],[.int (.i64) 273]]],[.sl 1 [[.int (.i64) 1297],[.int (.i64) 1092]]]],.sl 1 [[.int (.u64) 1],[.int (.u64) 1],[.int (.u64) 1],[.int (.u64) 1],[.int (.u64) 1]]],[.sl 1 [[.sl 1 [[.int (.i64) 5],[.int (.i64) 4]]],[.sl 1 [[.int (.i64) 20],[.int (.i64) 17]]],[.sl 1 [[.int (.i64) 81],[.int (.i64) 68]]],[.sl 1 [[.int (.i64) 324],[.int (.i64) 273]]],[.sl 1 [[.int (.i64) 1296],[.int (.i64) 1092]]]],.sl 1 [[.int (.u64) 1],[.int (.u64) 1],[.int (.u64) 1],[.int (.u64) 1],[.int (.u64) 1]]],[.sl 1 [[.sl 1 [[.int (.i64) 5],[.int (.i64) 4]]],[.sl 1 [[.int (.i64) 20],[.int (.i64) 17]]],[.sl 1 [[.int (.i64) 81],[.int (.i64) 68]]],[.sl 1 [[.int (.i64) 324],[.int (.i64) 272]]],[.sl 1 [[.int (.i64) 1296],[.int (.i64) 1088]]]],.sl 1 [[.int (.u64) 1],[.int (.u64) 1],[.int (.u64) 1],[.int (.u64) 1],[.int (.u64) 1]]],[.sl 1 [[.sl 1 [[.int (.i64) 5],[.int (.i64) 4]]],[.sl 1 [[.int (.i64) 20],[.int (.i64) 17]]],[.sl 1 [[.int (.i64) 80],[.int (.i64) 68]]],[.sl 1 [[.int (.i64) 320],[.int (.i64) 272]]],[.sl 1 [[.int (.i64) 1280],[.int (.i64) 1088]]]],.sl 1 [[.int (.u64) 1],[.int (.u64) 1],[.int (.u64) 1],[.int (.u64) 1],[.int (.u64) 1]]],[.sl 1 [[.sl 1 [[.int (.i64) 5],[.int (.i64) 4]]],[.sl 1 [[.int (.i64) 20],[.int (.i64) 16]]],[.sl 1 [[.int (.i64) 80],[.int (.i64) 64]]],[.sl 1 [[.int (.i64) 320],[.int (.i64) 256]]],[.sl 1 [[.int (.i64) 1280],[.int (.i64) 1024]]]],.sl 1 [[.int (.u64) 1],[.int (.u64) 1],[.int (.u64) 1],[.int (.u64) 1],[.int (.u64) 1]]]],.xP 158 2 30,.xG 1]] }),(1,{ sz:=0,xZ:=[[.agg [.int (.i64) 0,.int (.i64) 4],.xP 5 1 1],[.agg [.int (.i64) 1,.int (.i64) 4],.xP 137 1 6],[.agg [.int (.i64) 0,.int (.i64) 16],.xP 10 1 1],[.agg [.int (.i64) 1,.int (.i64) 16],.xP 142 1 2],[.agg [.int (.i64) 0,.int (.i64) 64],.xP 15 1 1],[.agg [.int (.i64) 1,.int (.i64) 64],.xP 147 1 2],[.agg [.int (.i64) 0,.int (.i64) 256],.xP 20 1 1],[.agg [.int (.i64) 1,.int (.i64) 256],.xP 152 1 2],[.agg [.int (.i64) 0,.int (.i64) 1024],.xP 25 1 1],[.agg [.int (.i64) 1,.int (.i64) 1024],.xP 157 1 2],[.agg [.int (.i64) 0,.int (.i64) 5],.xP 135 1 5],[.agg [.int (.i64) 0,.int (.i64) 20],.xP 140 1 5],[.agg [.int (.i64) 1,.int (.i64) 17],.xP 116 1 4],[.agg [.int (.i64) 0,.int (.i64) 81],.xP 93 1 3],[.agg [.int (.i64) 1,.int (.i64) 68],.xP 121 1 4],[.agg [.int (.i64) 0,.int (.i64) 324],.xP 98 1 3],[.agg [.int (.i64) 1,.int (.i64) 273],.xP 74 1 2],[.agg [.int (.i64) 0,.int (.i64) 1297],.xP 51 1 1],[.agg [.int (.i64) 1,.int (.i64) 1092],.xP 79 1 2],[.agg [.int (.i64) 0,.int (.i64) 1296],.xP 103 1 2],[.agg [.int (.i64) 1,.int (.i64) 272],.xP 126 1 2],[.agg [.int (.i64) 1,.int (.i64) 1088],.xP 131 1 2],[.agg [.int (.i64) 0,.int (.i64) 80],.xP 145 1 2],[.agg [.int (.i64) 0,.int (.i64) 320],.xP 150 1 2],[.agg [.int (.i64) 0,.int (.i64) 1280],.xP 155 1 2]] })] })
theorem e9 : xW prog cJ.1 cJ.2.1 tQ cJ.2.2.1 cJ.2.2.2:=yU xQ 60 (by kernel_rfl)
def Qx : eC:=[cI,cJ]
theorem yK : qM Qx:=λm h=>by
 simp only [Qx,ζ,η,or_false] at h
 rcases h with rfl | rfl
 ·exact b9
 ·exact e9
theorem nh : xK prog 12 [lR,.agg [.int .i64 0,.int .i64 0]] (.xI [.int .i64 0,.int .i64 0]):=xO (xR yK xQ) 60 (by kernel_rfl)
theorem nj : xK prog 12 [lR,.agg [.int .i64 0,.int .i64 1]] (.xI [.int .i64 0,.int .i64 0]):=xO (xR yK xQ) 60 (by kernel_rfl)
theorem nk : xK prog 12 [lR,.agg [.int .i64 0,.int .i64 2]] (.xI [.int .i64 0,.int .i64 0]):=xO (xR yK xQ) 60 (by kernel_rfl)
theorem nm : xK prog 12 [lR,.agg [.int .i64 0,.int .i64 3]] (.xI [.int .i64 0,.int .i64 0]):=xO (xR yK xQ) 60 (by kernel_rfl)
theorem np : xK prog 12 [lR,.agg [.int .i64 0,.int .i64 4]] (.xI [.int .i64 0,.int .i64 0]):=xO (xR yK xQ) 60 (by kernel_rfl)
theorem nq : xK prog 12 [lR,.agg [.int .i64 1,.int .i64 0]] (.xI [.int .i64 0,.int .i64 0]):=xO (xR yK xQ) 60 (by kernel_rfl)
theorem nr : xK prog 12 [lR,.agg [.int .i64 1,.int .i64 1]] (.xI [.int .i64 1,.int .i64 0]):=xO (xR yK xQ) 60 (by kernel_rfl)
theorem ns : xK prog 12 [lR,.agg [.int .i64 1,.int .i64 2]] (.xI [.int .i64 2,.int .i64 0]):=xO (xR yK xQ) 60 (by kernel_rfl)
theorem nu : xK prog 12 [lR,.agg [.int .i64 1,.int .i64 3]] (.xI [.int .i64 3,.int .i64 0]):=xO (xR yK xQ) 60 (by kernel_rfl)
theorem nv : xK prog 12 [lR,.agg [.int .i64 1,.int .i64 4]] (.xI [.int .i64 4,.int .i64 0]):=xO (xR yK xQ) 60 (by kernel_rfl)
theorem nw : xK prog 12 [lR,.agg [.int .i64 2,.int .i64 0]] (.xI [.int .i64 0,.int .i64 0]):=xO (xR yK xQ) 60 (by kernel_rfl)
theorem nz : xK prog 12 [lR,.agg [.int .i64 2,.int .i64 1]] (.xI [.int .i64 1,.int .i64 0]):=xO (xR yK xQ) 60 (by kernel_rfl)
theorem oa : xK prog 12 [lR,.agg [.int .i64 2,.int .i64 2]] (.xI [.int .i64 2,.int .i64 0]):=xO (xR yK xQ) 60 (by kernel_rfl)
theorem oc : xK prog 12 [lR,.agg [.int .i64 2,.int .i64 3]] (.xI [.int .i64 3,.int .i64 0]):=xO (xR yK xQ) 60 (by kernel_rfl)
theorem od : xK prog 12 [lR,.agg [.int .i64 2,.int .i64 4]] (.xI [.int .i64 3,.int .i64 0]):=xO (xR yK xQ) 60 (by kernel_rfl)
theorem oh : xK prog 12 [lR,.agg [.int .i64 3,.int .i64 0]] (.xI [.int .i64 0,.int .i64 0]):=xO (xR yK xQ) 60 (by kernel_rfl)
theorem om : xK prog 12 [lR,.agg [.int .i64 3,.int .i64 1]] (.xI [.int .i64 1,.int .i64 0]):=xO (xR yK xQ) 60 (by kernel_rfl)
theorem oo : xK prog 12 [lR,.agg [.int .i64 3,.int .i64 2]] (.xI [.int .i64 2,.int .i64 0]):=xO (xR yK xQ) 60 (by kernel_rfl)
theorem ot : xK prog 12 [lR,.agg [.int .i64 3,.int .i64 3]] (.xI [.int .i64 2,.int .i64 0]):=xO (xR yK xQ) 60 (by kernel_rfl)
theorem ou : xK prog 12 [lR,.agg [.int .i64 3,.int .i64 4]] (.xI [.int .i64 2,.int .i64 0]):=xO (xR yK xQ) 60 (by kernel_rfl)
theorem ov : xK prog 12 [lR,.agg [.int .i64 4,.int .i64 0]] (.xI [.int .i64 0,.int .i64 0]):=xO (xR yK xQ) 60 (by kernel_rfl)
theorem ow : xK prog 12 [lR,.agg [.int .i64 4,.int .i64 1]] (.xI [.int .i64 1,.int .i64 0]):=xO (xR yK xQ) 60 (by kernel_rfl)
theorem oz : xK prog 12 [lR,.agg [.int .i64 4,.int .i64 2]] (.xI [.int .i64 1,.int .i64 0]):=xO (xR yK xQ) 60 (by kernel_rfl)
theorem pa : xK prog 12 [lR,.agg [.int .i64 4,.int .i64 3]] (.xI [.int .i64 1,.int .i64 0]):=xO (xR yK xQ) 60 (by kernel_rfl)
theorem pb : xK prog 12 [lR,.agg [.int .i64 4,.int .i64 4]] (.xI [.int .i64 1,.int .i64 0]):=xO (xR yK xQ) 60 (by kernel_rfl)
theorem pc : xK prog 12 [lR,.agg [.int .i64 5,.int .i64 0]] (.xI [.int .i64 0,.int .i64 0]):=xO (xR yK xQ) 60 (by kernel_rfl)
theorem pd : xK prog 12 [lR,.agg [.int .i64 5,.int .i64 1]] (.xI [.int .i64 0,.int .i64 0]):=xO (xR yK xQ) 60 (by kernel_rfl)
theorem pf : xK prog 12 [lR,.agg [.int .i64 5,.int .i64 2]] (.xI [.int .i64 0,.int .i64 0]):=xO (xR yK xQ) 60 (by kernel_rfl)
theorem pg : xK prog 12 [lR,.agg [.int .i64 5,.int .i64 3]] (.xI [.int .i64 0,.int .i64 0]):=xO (xR yK xQ) 60 (by kernel_rfl)
theorem ph : xK prog 12 [lR,.agg [.int .i64 5,.int .i64 4]] (.xI [.int .i64 0,.int .i64 0]):=xO (xR yK xQ) 60 (by kernel_rfl)
open Rs Fm Ru Te
namespace Md
def kE (l:List (List Nat)) (p:Nat × Nat):Nat:=(l.getD p.1 []).getD p.2 0
def WO (rs:List xC) (l:List (List Nat)):Nat->rT
 | 0=>λp=>(XM rs p).getLsbD 0
 | k+1=>λp=>decide (k+1<=kE l p)
def nZ (rs:List xC) (T:Nat) (l:List (List Nat)):Bool:=(uC rs T).all λp=>(List.range 6).all λk=>sE rs 2 T 3 (WO rs l k) p==WO rs l (k+1) p
theorem QH {k j:Nat} (h:j<k):(fK k).getD (j+1) nG=⟨11,0,0,3,(j:Int),0⟩:=by simp [fK,List.getD,h]
theorem eN (rs:List xC) (A T:Nat) (c:List Nd) {k j:Nat} (h:j<k):(zP rs A T c k).getD j (λ_=>false)= wY rs A T (c.getD j nG) ((zP rs A T c j).getD (c.getD j nG).x.toNat λ_=>false) ((zP rs A T c j).getD (c.getD j nG).y.toNat λ_=>false):=by
 induction k with
 | zero=>omega
 | succ k ih=>
  rw [zP]
  by_cases e:j=k
  ·subst e;rw [List.getD,List.getElem?_append_right (by rw [rB]; omega),rB,Nat.sub_self];rfl
  ·rw [List.getD,List.getElem?_append_left (by rw [rB]; omega)];exact ih (by omega)
theorem Z9 {rs:List xC} {T:Nat} {l:List (List Nat)} (hc:nZ rs T l=true) {k:Nat} (hk:k<=6):∀ j,j<=k->∀ p ∈ uC rs T,(zP rs 2 T (fK k) (k+1)).getD j (λ_=>false) p=WO rs l j p:=by
 intro j
 induction j with
 | zero=> intro _ p _;rw [eN _ _ _ _ (by omega)];rfl
 | succ j ih=>
  intro hj p hp;rw [eN _ _ _ _ (by omega),QH (by omega)]
  have e:((zP rs 2 T (fK k) (j+1)).getD (j:Int).toNat λ_=>false)= (zP rs 2 T (fK k) (k+1)).getD j λ_=>false:=by rw [Int.toNat_natCast,eN _ _ _ _ (show j<j+1 by omega),eN _ _ _ _ (show j<k+1 by omega)]
  show sE rs 2 T 3 ((zP rs 2 T (fK k) (j+1)).getD (j:Int).toNat λ_=>false) p=_;rw [e,iG λq hq=>ih (by omega) q hq];unfold nZ at hc;have:=δ.1 (δ.1 hc p hp) j (List.mem_range.2 (by omega));exact eq_of_beq this
theorem N8 {k:Nat} (h:k<=6):yL (fK k)= fK k:=by rcases(show k=0\/k=1\/k=2\/k=3\/k=4\/k=5\/k=6 by omega) with rfl | rfl | rfl | rfl | rfl | rfl | rfl <;> kernel_rfl
theorem Z8 {rs:List xC} {T:Nat} {l:List (List Nat)} (hc:nZ rs T l=true) {k:Nat} (hk:k<=6) {p:Nat × Nat} (hp:p ∈ uC rs T):sc rs 2 T (fK k) p=WO rs l k p:=by
 have hl:(fK k).length=k+1:=by simp [fK]
 unfold sc;rw [N8 hk,hl];exact Z9 hc hk k (Nat.le_refl _) p hp
theorem mI {F:Int} {T:Nat} {rs:List xC} {l:List (List Nat)} (hT:1<=T) (hc:nZ rs T l=true) (hr:((List.range 7).all λk=>decide (jK ⟨2,F,(T:Int),rs⟩ (fK k)= 0))= true) {k:Nat} (hk:k+1<=6) :
  xK prog 10 [(vI.mk 2 F (T:Int) rs).d,.sl 6 (uS (fK (k+1)))] (.xI [.sl 1 (xD rs.length T λp=>decide (k+1<=kE l p)),.int .i64 0]):=by
 have hz:jK ⟨2,F,(T:Int),rs⟩ (fK (k+1))= 0:=by have:=δ.1 hr (k+1) (List.mem_range.2 (by omega));simpa using this
 have:=au ⟨2,F,(T:Int),rs⟩ (fK (k+1));unfold cN at this;rw [if_neg (by simpa using hz),hz] at this;simp only [Int.toNat_natCast,show (2:Int).toNat=2 from rfl] at this
 rwa [jW λi t hi ht=>Z8 hc hk (vo hT hi ht)] at this
structure x9 (e : D) (T : Nat) (rs : List xC) (l : List (List Nat)) : Prop where
 MM:xK prog 7 [e] (.xI [(vI.mk 2 1 (T:Int) rs).d,.int .i64 0])
 hT:1<=T/\T<=5
 hR:rs.length<=64
 hold:∀ k,k+1<=6->xK prog 10 [(vI.mk 2 1 (T:Int) rs).d,.sl 6 (uS (fK (k+1)))] (.xI [.sl 1 (xD rs.length T λp=>decide (k+1<=kE l p)),.int .i64 0])
 WK:∀ r t:Nat,r<rs.length->t<T->xK prog 12 [(vI.mk 2 1 (T:Int) rs).d,.agg [.int .i64 (r:Int),.int .i64 (t:Int)]] (.xI [.int .i64 (kE l (r,t):Int),.int .i64 0])
def OG : List (List Nat):=[[0],[0]]
theorem Nz : nZ TU.rs 1 OG=true:=by kernel_rfl
theorem RV : TU.d=Rm:=by kernel_rfl
theorem QU : ((List.range 7).all λk=>decide (jK ⟨2,1,(1:Nat),TU.rs⟩ (fK k)= 0))= true:=by kernel_rfl
theorem Q8 : ∀ r t:Nat,r<TU.rs.length->t<1->xK prog 12 [TU.d,.agg [.int .i64 (r:Int),.int .i64 (t:Int)]] (.xI [.int .i64 (kE OG (r,t):Int),.int .i64 0]):=by
 rw [RV];intro r t hr ht;have hr':r<2:=hr
 rcases(show r=0\/r=1 by omega) with rfl | rfl
 ·rcases(show t=0 by omega) with rfl
  ·exact ka
 ·rcases(show t=0 by omega) with rfl
  ·exact kb
theorem MD : x9 (.agg [.int .i64 0,.xU]) 1 TU.rs OG:=⟨by rw [show (vI.mk 2 1 ((1:Nat):Int) TU.rs).d=Rm from RV]; exact SN,by omega,by show 2<=64; omega,λk hk=>mI (by omega) Nz QU hk,Q8⟩
def OH : List (List Nat):=[[0,0],[0,1],[0,0]]
theorem Ny : nZ TV.rs 2 OH=true:=by kernel_rfl
theorem RW : TV.d=Wc:=by kernel_rfl
theorem QV : ((List.range 7).all λk=>decide (jK ⟨2,1,(2:Nat),TV.rs⟩ (fK k)= 0))= true:=by kernel_rfl
theorem Q9 : ∀ r t:Nat,r<TV.rs.length->t<2->xK prog 12 [TV.d,.agg [.int .i64 (r:Int),.int .i64 (t:Int)]] (.xI [.int .i64 (kE OH (r,t):Int),.int .i64 0]):=by
 rw [RW];intro r t hr ht;have hr':r<3:=hr
 rcases(show r=0\/r=1\/r=2 by omega) with rfl | rfl | rfl
 ·rcases(show t=0\/t=1 by omega) with rfl | rfl
  ·exact kd
  ·exact ke
 ·rcases(show t=0\/t=1 by omega) with rfl | rfl
  ·exact kf
  ·exact kg
 ·rcases(show t=0\/t=1 by omega) with rfl | rfl
  ·exact kh
  ·exact ki
theorem ME : x9 (.agg [.int .i64 1,.sl 3 [[.int .i64 0,.int .i64 5,.int .i64 1]]]) 2 TV.rs OH:=⟨by rw [show (vI.mk 2 1 ((2:Nat):Int) TV.rs).d=Wc from RW]; exact SO,by omega,by show 3<=64; omega,λk hk=>mI (by omega) Ny QV hk,Q9⟩
def OI : List (List Nat):=[[0,0,0],[0,1,2],[0,1,1],[0,0,0]]
theorem Nx : nZ TW.rs 3 OI=true:=by kernel_rfl
theorem RZ : TW.d=ju:=by kernel_rfl
theorem QW : ((List.range 7).all λk=>decide (jK ⟨2,1,(3:Nat),TW.rs⟩ (fK k)= 0))= true:=by kernel_rfl
theorem QB : ∀ r t:Nat,r<TW.rs.length->t<3->xK prog 12 [TW.d,.agg [.int .i64 (r:Int),.int .i64 (t:Int)]] (.xI [.int .i64 (kE OI (r,t):Int),.int .i64 0]):=by
 rw [RZ];intro r t hr ht;have hr':r<4:=hr
 rcases(show r=0\/r=1\/r=2\/r=3 by omega) with rfl | rfl | rfl | rfl
 ·rcases(show t=0\/t=1\/t=2 by omega) with rfl | rfl | rfl
  ·exact kj
  ·exact kl
  ·exact kn
 ·rcases(show t=0\/t=1\/t=2 by omega) with rfl | rfl | rfl
  ·exact ko
  ·exact kp
  ·exact ku
 ·rcases(show t=0\/t=1\/t=2 by omega) with rfl | rfl | rfl
  ·exact la
  ·exact lb
  ·exact ld
 ·rcases(show t=0\/t=1\/t=2 by omega) with rfl | rfl | rfl
  ·exact lf
  ·exact lg
  ·exact lh
theorem MG : x9 (.agg [.int .i64 2,.sl 3 [[.int .i64 0,.int .i64 5,.int .i64 1],[.int .i64 1,.int .i64 17,.int .i64 1]]]) 3 TW.rs OI:=⟨by rw [show (vI.mk 2 1 ((3:Nat):Int) TW.rs).d=ju from RZ]; exact SP,by omega,by show 4<=64; omega,λk hk=>mI (by omega) Nx QW hk,QB⟩
def OJ : List (List Nat):=[[0,0,0,0],[0,1,2,3],[0,1,2,2],[0,1,1,1],[0,0,0,0]]
theorem O0 : nZ TZ.rs 4 OJ=true:=by kernel_rfl
theorem RY : TZ.d=eS:=by kernel_rfl
theorem QZ : ((List.range 7).all λk=>decide (jK ⟨2,1,(4:Nat),TZ.rs⟩ (fK k)= 0))= true:=by kernel_rfl
theorem QC : ∀ r t:Nat,r<TZ.rs.length->t<4->xK prog 12 [TZ.d,.agg [.int .i64 (r:Int),.int .i64 (t:Int)]] (.xI [.int .i64 (kE OJ (r,t):Int),.int .i64 0]):=by
 rw [RY];intro r t hr ht;have hr':r<5:=hr
 rcases(show r=0\/r=1\/r=2\/r=3\/r=4 by omega) with rfl | rfl | rfl | rfl | rfl
 ·rcases(show t=0\/t=1\/t=2\/t=3 by omega) with rfl | rfl | rfl | rfl
  ·exact lj
  ·exact lp
  ·exact lu
  ·exact lz
 ·rcases(show t=0\/t=1\/t=2\/t=3 by omega) with rfl | rfl | rfl | rfl
  ·exact ma
  ·exact mb
  ·exact mc
  ·exact mf
 ·rcases(show t=0\/t=1\/t=2\/t=3 by omega) with rfl | rfl | rfl | rfl
  ·exact mg
  ·exact mh
  ·exact mi
  ·exact mj
 ·rcases(show t=0\/t=1\/t=2\/t=3 by omega) with rfl | rfl | rfl | rfl
  ·exact ml
  ·exact mq
  ·exact mr
  ·exact mw
 ·rcases(show t=0\/t=1\/t=2\/t=3 by omega) with rfl | rfl | rfl | rfl
  ·exact mz
  ·exact na
  ·exact nc
  ·exact nf
theorem MJ : x9 (.agg [.int .i64 3,.sl 3 [[.int .i64 0,.int .i64 5,.int .i64 1],[.int .i64 0,.int .i64 81,.int .i64 1],[.int .i64 1,.int .i64 17,.int .i64 1]]]) 4 TZ.rs OJ:=⟨by rw [show (vI.mk 2 1 ((4:Nat):Int) TZ.rs).d=eS from RY]; exact SQ,by omega,by show 5<=64; omega,λk hk=>mI (by omega) O0 QZ hk,QC⟩
def OK : List (List Nat):=[[0,0,0,0,0],[0,1,2,3,4],[0,1,2,3,3],[0,1,2,2,2],[0,1,1,1,1],[0,0,0,0,0]]
theorem O1 : nZ TY.rs 5 OK=true:=by kernel_rfl
theorem RX : TY.d=lR:=by kernel_rfl
theorem QY : ((List.range 7).all λk=>decide (jK ⟨2,1,(5:Nat),TY.rs⟩ (fK k)= 0))= true:=by kernel_rfl
theorem QD : ∀ r t:Nat,r<TY.rs.length->t<5->xK prog 12 [TY.d,.agg [.int .i64 (r:Int),.int .i64 (t:Int)]] (.xI [.int .i64 (kE OK (r,t):Int),.int .i64 0]):=by
 rw [RX];intro r t hr ht;have hr':r<6:=hr
 rcases(show r=0\/r=1\/r=2\/r=3\/r=4\/r=5 by omega) with rfl | rfl | rfl | rfl | rfl | rfl
 ·rcases(show t=0\/t=1\/t=2\/t=3\/t=4 by omega) with rfl | rfl | rfl | rfl | rfl
  ·exact nh
  ·exact nj
  ·exact nk
  ·exact nm
  ·exact np
 ·rcases(show t=0\/t=1\/t=2\/t=3\/t=4 by omega) with rfl | rfl | rfl | rfl | rfl
  ·exact nq
  ·exact nr
  ·exact ns
  ·exact nu
  ·exact nv
 ·rcases(show t=0\/t=1\/t=2\/t=3\/t=4 by omega) with rfl | rfl | rfl | rfl | rfl
  ·exact nw
  ·exact nz
  ·exact oa
  ·exact oc
  ·exact od
 ·rcases(show t=0\/t=1\/t=2\/t=3\/t=4 by omega) with rfl | rfl | rfl | rfl | rfl
  ·exact oh
  ·exact om
  ·exact oo
  ·exact ot
  ·exact ou
 ·rcases(show t=0\/t=1\/t=2\/t=3\/t=4 by omega) with rfl | rfl | rfl | rfl | rfl
  ·exact ov
  ·exact ow
  ·exact oz
  ·exact pa
  ·exact pb
 ·rcases(show t=0\/t=1\/t=2\/t=3\/t=4 by omega) with rfl | rfl | rfl | rfl | rfl
  ·exact pc
  ·exact pd
  ·exact pf
  ·exact pg
  ·exact ph
theorem MK : x9 (.agg [.int .i64 4,.sl 3 [[.int .i64 0,.int .i64 5,.int .i64 1],[.int .i64 0,.int .i64 81,.int .i64 1],[.int .i64 1,.int .i64 17,.int .i64 1],[.int .i64 1,.int .i64 273,.int .i64 1]]]) 5 TY.rs OK:=⟨by rw [show (vI.mk 2 1 ((5:Nat):Int) TY.rs).d=lR from RX]; exact SR,by omega,by show 6<=64; omega,λk hk=>mI (by omega) O1 QY hk,QD⟩
end Md
end Go.Pd

/- Part MH. -/
namespace Go.Pd
open Go Go.Proofs
open BitVec renaming isValue -> ZA
open Rs Fm Ru Te Md
theorem Wi {F:Int} {T:Nat} {rs:List xC} (φ:Nat × Nat->Bool):xK prog 11 [(vI.mk 2 F (T:Int) rs).d,.sl 1 (xD rs.length T φ)] (.bool true):=by
 show xK prog 11 [.agg [.int .i64 2,.int .i64 F,.int .i64 (T:Int),.sl 2 (uR rs)],.sl 1 (xD rs.length T φ)] (.bool true);refine zJ func11 MO λhf=>?_;simp only [D.nE,D.fact,yP,zB] at hf;have hmx:maxLen=9223372036854775807:=rfl;have q:((rs.length:Int) != (rs.length:Int))= false:=by simp
 refine jl yP zB q ?_
 refine zC (λi:Nat=>[(15,.int .i64 i),(14,.int .i64 rs.length),(13,.sl 1 (xD rs.length T φ)),(2,.ref 0 4 0 0)]) (λ_=>⟨1,[(0,⟨4,[[.int .i64 2,.int .i64 F,.int .i64 (T:Int),.sl 2 (uR rs)]]⟩)]⟩) (λi=>i<=rs.length) (λi=>rs.length-i) 0 (Nat.zero_le _) ?_ ?_
 ·exact sV
 intro i hi;refine wZ mixed ?_
 by_cases h:i<rs.length
 ·have hd:((i:Int)<(rs.length:Int)):=by omega
  have g1:=wP (T:=T) (φ:=φ) h;have q2:((T:Int) != (T:Int))= false:=by simp
  simp only [simprocAttr,-ZA,↓zU,↓zD,zV,zT,zW,hd,yP,g1,wU,ε,γ,q2]
  (repeat refine sd ?_)
  refine⟨i+1,by omega,?_,by omega⟩;exact zf
 ·have hd:¬ ((i:Int)<(rs.length:Int)):=by omega
  refine yF hd ?_;exact .dv
namespace Md
def WS : vI:=⟨2,1,2,[⟨[[4,4],[16,17]],[0#64,0#64]⟩,⟨[[5,4],[20,18]],[1#64,1#64]⟩]⟩
def WL : List Nd:=[⟨1,0,0,0,0,0⟩,⟨3,0,0,0,0,0⟩,⟨13,0,0,3,0,1⟩]
theorem UK : jK WS WL=0:=by kernel_rfl
theorem UL : cN WS WL = [[.sl 1 [[.bool false],[.bool false]]],[.sl 1 [[.bool false],[.bool true]]]]:=by kernel_rfl
theorem Q7 : xK prog 10 [WS.d,.sl 6 (uS WL)] (.xI [.sl 1 [[.sl 1 [[.bool false],[.bool false]]],[.sl 1 [[.bool false],[.bool true]]]],.int .i64 0]):=by
 have:=au WS WL
 rwa [UL,UK] at this
theorem rX {g:FuncId} {args:List D} {d:D} {M:eC} (h:xK prog g args d) (hp:D.xJ args=true) (hM:qM M):qM ((g,args,d,tQ) :: M):=λm hm=>by
 rcases ζ.1 hm with rfl | hm
 ·exact xW.vZ h hp
 ·exact hM m hm
theorem ZD : qM []:=λ_ h=>by cases h
end Md
theorem S9 : xK prog 5 [] (.bool true):= xO (xR (rX So rfl <| rX QT rfl <| rX Tp rfl <| rX Sp rfl <| rX Wm rfl <| rX Q7 rfl <| rX QN rfl ZD) xQ) 40 (by kernel_rfl)
open Rs Fm Ru Te Md
theorem SF {k:Nat} (h:k<6):xK prog 9 [.int .i64 3,.sl 6 (uS (fK k))] (.sl 6 (uS (fK (k+1)))):=by
 rcases(show k=0\/k=1\/k=2\/k=3\/k=4\/k=5 by omega) with rfl | rfl | rfl | rfl | rfl | rfl
 ·exact Wq
 ·exact Wr
 ·exact Ws
 ·exact Wt
 ·exact Wu
 ·exact Wv
theorem mC {n r T:Nat} {E:D} {rs:List xC} {l:List (List Nat)} (hn:n<256) (hr:n % 5=r) (hE:E.one=true) (hp:E.xH=true) (alt:xK prog 6 [.int .i64 (r:Int)] (.xI [.agg [.int .i64 (r:Int),E],.int .i64 0])) (h:x9 (.agg [.int .i64 (r:Int),E]) T rs l):xK prog 3 [.int .u8 (n:Int)] (.bool true):=by
 obtain⟨hlos,⟨T1,T5⟩,hR,hold,WK⟩:=h;have htab:=λφ=>Wi (F:=1) (T:=T) (rs:=rs) φ;have e1:((n:Int)).tmod 5=(r:Int):=by rw [<- hr,Int.tmod_eq_emod_of_nonneg (by omega),Int.natCast_emod]; rfl
 have e2:IntKind.i64.wrap (r:Int)= (r:Int):=wrap_i64 (by omega);have hpl:D.xJ [.agg [.int .i64 (r:Int),E]]=true:=by simp [D.xJ,D.xH,hp]
 have hcl:E.cells=some [E]:=by cases E <;> first | rfl | cases hE
 unfold vI.d vI.cells at hlos hold WK htab;simp only at hlos hold WK htab;refine zJ func3 k3 λhf=>?_;refine yQ ?_;refine .go (cq S9) ?_;refine zg e1 e2 ?_;refine .go (cq alt) ?_;refine mX hE hcl ?_;refine .go (xW.vZ hlos hpl) ?_;have c1:¬ (64:Int)<(rs.length:Int):=by omega
 have c2:¬ (5:Int)<(T:Int):=by omega
 refine RR hE hcl zB c1 c2 ?_;refine .go (cq Tp) ?_;refine yQ ?_
 refine zC (λk:Nat=>[(8,.int .i64 ((k+1:Nat):Int)),(7,.sl 6 (uS (fK k))),(5,.ref 1 4 0 0)]) (λ_=>⟨2,[(1,⟨4,[[.int .i64 2,.int .i64 1,.int .i64 (T:Int),.sl 2 (uR rs)]]⟩),(0,⟨2,[[.int .i64 (r:Int),E]]⟩)]⟩) (λk=>k<=6) (λk=>6-k) 0 (Nat.zero_le _) ?_ ?_
 ·exact sV
 intro k hk;refine wZ mixed ?_;by_cases hk6:k<6
 case neg=>
  have hd:¬ ((k+1:Nat):Int)<=6:=by omega
  refine yF hd ?_;exact .dv
 have hd:((k+1:Nat):Int)<=6:=by omega
 refine yF hd ?_;refine .go (cq (SF hk6)) ?_;refine yQ ?_;refine .go (xW.vZ (hold k (by omega)) rfl) ?_;refine yQ ?_;refine .go (cq (htab _)) ?_;refine yF yP ?_
 refine zC (λi:Nat=>[(69,.int .i64 i),(68,.int .i64 rs.length),(9,.sl 1 (xD rs.length T λp=>decide (k+1<=kE l p))),(8,.int .i64 ((k+1:Nat):Int)),(7,.sl 6 (uS (fK (k+1)))),(5,.ref 1 4 0 0)]) (λ_=>⟨2,[(1,⟨4,[[.int .i64 2,.int .i64 1,.int .i64 (T:Int),.sl 2 (uR rs)]]⟩),(0,⟨2,[[.int .i64 (r:Int),E]]⟩)]⟩) (λi=>i<=rs.length) (λi=>rs.length-i) 0 (Nat.zero_le _) ?_ ?_
 ·exact sV
 intro i hi;refine wZ mixed ?_;by_cases hi2:i<rs.length
 case neg=>
  have hd2:¬ ((i:Int)<(rs.length:Int)):=by omega
  refine yF hd2 ?_;refine⟨k+1,by omega,?_,by omega⟩;exact zf
 have hd2:((i:Int)<(rs.length:Int)):=by omega
 have g1:=wP (T:=T) (φ:=λp=>decide (k+1<=kE l p)) hi2;simp only [simprocAttr,-ZA,↓zU,↓zD,zV,zT,zW,hd2,yP,g1,wU,ε,γ]
 (repeat refine sd ?_)
 refine zC (λt:Nat=>[(77,.int .i64 t),(76,.int .i64 T),(69,.int .i64 i),(68,.int .i64 rs.length),(11,.int .i64 i),(9,.sl 1 (xD rs.length T λp=>decide (k+1<=kE l p))),(8,.int .i64 ((k+1:Nat):Int)),(7,.sl 6 (uS (fK (k+1)))),(5,.ref 1 4 0 0)]) (λ_=>⟨2,[(1,⟨4,[[.int .i64 2,.int .i64 1,.int .i64 (T:Int),.sl 2 (uR rs)]]⟩),(0,⟨2,[[.int .i64 (r:Int),E]]⟩)]⟩) (λt=>t<=T) (λt=>T-t) 0 (Nat.zero_le _) ?_ ?_
 ·exact sV
 intro t ht;refine wZ mixed ?_;by_cases ht2:t<T
 case neg=>
  have hd3:¬ ((t:Int)<(T:Int)):=by omega
  refine yF hd3 ?_;refine⟨i+1,by omega,?_,by omega⟩;exact zf
 have hd3:((t:Int)<(T:Int)):=by omega
 have g2:=vB (i:=i) (φ:=λp=>decide (k+1<=kE l p)) ht2
 have e3:(decide (k+1<=kE l (i,t)) != decide (((k+1:Nat):Int)<=(kE l (i,t):Int)))= false:=by rw [bne_eq_false_iff_eq,decide_eq_decide]; omega
 refine yF hd3 ?_;refine .go (cq (WK i t hi2 ht2)) ?_;simp only [simprocAttr,-ZA,↓zU,↓zD,zV,zT,zW,yP,g1,wU,ε,γ,g2,e3]
 (repeat refine sd ?_)
 refine⟨t+1,by omega,?_,by omega⟩;exact zf
theorem SB (n:Nat) (hn:n<256):xK prog 3 [.int .u8 (n:Int)] (.bool true):=by
 rcases(show n % 5=0\/n % 5=1\/n % 5=2\/n % 5=3\/n % 5=4 by omega) with h | h | h | h | h
 ·exact mC hn h rfl rfl S0 MD
 ·exact mC hn h rfl rfl S3 ME
 ·exact mC hn h rfl rfl S4 MG
 ·exact mC hn h rfl rfl S5 MJ
 ·exact mC hn h rfl rfl S6 MK
end Go.Pd
