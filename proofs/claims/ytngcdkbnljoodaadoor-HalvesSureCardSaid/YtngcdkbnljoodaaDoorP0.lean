/- Functions of the program and of the law as Lean functions, with the proof that the calls answer so; written by a program. No conditions beyond those typed. -/
import Derived.Test.YtngcdkbnljoodaaDoorProg
import Derived.Below
import Derived.Deep.Draws
import Derived.Deep.AppendLies
import Derived.Maps.AppendAt
import Derived.OwnWalk
import Derived.Laws.BytesArg
import Derived.Laws.MakeOwn
import Derived.Laws.OwnMore
import Derived.Deep.OwnRows
import Derived.Tactics
import Derived.Lib.ConvBytes
import Derived.Laws.Slices
import Derived.WalkKit
import Derived.KernelRfl
import Derived.RowKit3
import Derived.Deep.LoopGhost
import Derived.Deep.QuietTactic
import Derived.BigQuiet
import Derived.WideLaws
import Derived.Deep.DeepCutAuto
import Derived.Deep.CutBlock
import Derived.Deep.RegionHeld3
import Derived.Laws.Rows
import Derived.Lib.AppendStr
import Derived.ArgAppend
import Derived.Laws.IdiomCopy
import Derived.OrdersHeld
import Derived.Laws.BitsLemmas
import Derived.RowKit
import Derived.Test.YtngcdkbnljoodaaDoorWWords
import Derived.Test.YtngcdkbnljoodaaDoorWLast
import Derived.Test.YtngcdkbnljoodaaDoorWTab
import Derived.Test.YtngcdkbnljoodaaDoorWFour
import Derived.Test.YtngcdkbnljoodaaDoorWQPut
import Derived.Test.YtngcdkbnljoodaaDoorWApart
import Derived.Test.YtngcdkbnljoodaaDoorWArr
import Derived.Test.YtngcdkbnljoodaaDoorWZeros
import Derived.Test.YtngcdkbnljoodaaDoorWFoot
import Derived.Test.YtngcdkbnljoodaaDoorWKept
import Derived.Test.YtngcdkbnljoodaaDoorWShare
import Derived.Test.YtngcdkbnljoodaaDoorWN
import Derived.Test.YtngcdkbnljoodaaDoorWFootNe
import Derived.Test.YtngcdkbnljoodaaDoorWAt
import Derived.Test.YtngcdkbnljoodaaDoorWEqStruct
import Derived.Test.YtngcdkbnljoodaaDoorWRepsOne
import Derived.Test.YtngcdkbnljoodaaDoorWInv
import Derived.Test.YtngcdkbnljoodaaDoorWInvWords
import Derived.Test.YtngcdkbnljoodaaDoorWGuard
import Derived.Test.YtngcdkbnljoodaaDoorWNEv
import Derived.Test.YtngcdkbnljoodaaDoorWMore
namespace Go.Proofs.YtngcdkbnljoodaaDoor.P
open Go.RowKit Go.Proofs.YtngcdkbnljoodaaDoorW.PrintWords Go.Proofs.YtngcdkbnljoodaaDoorW.PrintLast Go.Proofs.YtngcdkbnljoodaaDoorW.PrintMore
attribute [local go_sem] max2_int min2_int max_two min_two max_three min_three max_four min_four   -- for this text's walks alone
set_option linter.unusedVariables false
set_option linter.unusedSimpArgs false



def errW : Option Int → Value
  | none => .nilIface
  | some c => .iface 119 (.int .i64 c)
theorem errW_none : errW none = .nilIface := rfl
theorem errW_some (c : Int) : errW (some c) = .iface 119 (.int .i64 c) := rfl

theorem info5 : (Tryd.prog.info? 5).map (fun i => (i.zero, i.size, i.bytes)) = some (some (.int .u8 0), 1, 1) := by kernel_rfl
-- the values' own types

end Go.Proofs.YtngcdkbnljoodaaDoor.P
