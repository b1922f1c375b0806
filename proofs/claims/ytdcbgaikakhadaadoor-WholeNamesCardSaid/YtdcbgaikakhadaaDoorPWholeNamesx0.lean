-- Written by a program of this claim (after the print, with the contracts of some functions given by hand).
import Derived.Test.YtdcbgaikakhadaaDoorProg
import Derived.Below
import Derived.Deep.Draws
import Derived.Deep.AppendLies
import Derived.Maps.AppendAt
import Derived.OwnWalk
import Derived.Laws.BytesArg
import Derived.Laws.MakeOwn
import Derived.Laws.OwnMore
import Derived.Deep.OwnRows
import Derived.Tactics
import Derived.Lib.ConvBytes
import Derived.Laws.Slices
import Derived.WalkKit
import Derived.KernelRfl
import Derived.RowKit3
import Derived.Deep.LoopGhost
import Derived.Deep.QuietTactic
import Derived.BigQuiet
import Derived.WideLaws
import Derived.Deep.DeepCutAuto
import Derived.Deep.CutBlock
import Derived.Deep.RegionHeld3
import Derived.Laws.Rows
import Derived.Lib.AppendStr
import Derived.ArgAppend
import Derived.Laws.IdiomCopy
import Derived.OrdersHeld
import Derived.Laws.BitsLemmas
import Derived.RowKit
import Derived.Test.YtdcbgaikakhadaaDoorErr
import Derived.Test.YtdcbgaikakhadaaDoorWWords
import Derived.Test.YtdcbgaikakhadaaDoorWLast
import Derived.Test.YtdcbgaikakhadaaDoorWTab
import Derived.Test.YtdcbgaikakhadaaDoorWFour
import Derived.Test.YtdcbgaikakhadaaDoorWQPut
import Derived.Test.YtdcbgaikakhadaaDoorWApart
import Derived.Test.YtdcbgaikakhadaaDoorWArr
import Derived.Test.YtdcbgaikakhadaaDoorWZeros
import Derived.Test.YtdcbgaikakhadaaDoorWFoot
import Derived.Test.YtdcbgaikakhadaaDoorWKept
import Derived.Test.YtdcbgaikakhadaaDoorWShare
import Derived.Test.YtdcbgaikakhadaaDoorWN
import Derived.Test.YtdcbgaikakhadaaDoorWFootNe
import Derived.Test.YtdcbgaikakhadaaDoorWAt
import Derived.Test.YtdcbgaikakhadaaDoorWEqStruct
import Derived.Test.YtdcbgaikakhadaaDoorWRepsOne
import Derived.Test.YtdcbgaikakhadaaDoorWInv
import Derived.Test.YtdcbgaikakhadaaDoorWInvWords
import Derived.Test.YtdcbgaikakhadaaDoorWGuard
import Derived.Test.YtdcbgaikakhadaaDoorWNEv
import Derived.Test.YtdcbgaikakhadaaDoorWMore
namespace Go.Proofs.YtdcbgaikakhadaaDoor.PWholeNames
open Go.RowKit Go.Proofs.YtdcbgaikakhadaaDoorW.PrintWords Go.Proofs.YtdcbgaikakhadaaDoorW.PrintLast Go.Proofs.YtdcbgaikakhadaaDoorW.PrintMore
attribute [local go_sem] max2_int min2_int max_two min_two max_three min_three max_four min_four   -- for this text's walks alone
set_option linter.unusedVariables false
set_option linter.unusedSimpArgs false



def errW : Option Int → Value
  | none => .nilIface
  | some c => .iface 0 (.int .i64 c)
theorem errW_none : errW none = .nilIface := rfl
theorem errW_some (c : Int) : errW (some c) = .iface 0 (.int .i64 c) := rfl

theorem info22 : (Tryd.prog.info? 22).map (fun i => (i.zero, i.size, i.bytes)) = some (some (.int .i64 0), 1, 8) := by kernel_rfl
theorem info25 : (Tryd.prog.info? 25).map (fun i => (i.zero, i.size, i.bytes)) = some (some (.int .i64 0), 1, 8) := by kernel_rfl
theorem info27 : (Tryd.prog.info? 27).map (fun i => (i.zero, i.size, i.bytes)) = some (some (.int .i64 0), 1, 8) := by kernel_rfl
-- the values' own types

end Go.Proofs.YtdcbgaikakhadaaDoor.PWholeNames
