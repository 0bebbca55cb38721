/- Functions of the program and of the law as Lean functions, with the proof that the calls answer so; written by a program. No conditions beyond those typed. -/
import Derived.Test.YtngcdkbnljoodaaProg
import Derived.Below
import Derived.Deep.Draws
import Derived.Deep.AppendLies
import Derived.Maps.AppendAt
import Derived.OwnWalk
import Derived.Laws.BytesArg
import Derived.Laws.MakeOwn
import Derived.Laws.OwnMore
import Derived.Deep.OwnRows
import Derived.Tactics
import Derived.Lib.ConvBytes
import Derived.Laws.Slices
import Derived.WalkKit
import Derived.KernelRfl
import Derived.RowKit3
import Derived.Deep.LoopGhost
import Derived.Deep.QuietTactic
import Derived.BigQuiet
import Derived.WideLaws
import Derived.Deep.DeepCutAuto
import Derived.Deep.CutBlock
import Derived.Deep.RegionHeld3
import Derived.Laws.Rows
import Derived.Lib.AppendStr
import Derived.ArgAppend
import Derived.Laws.IdiomCopy
import Derived.OrdersHeld
import Derived.Laws.BitsLemmas
import Derived.RowKit
import Derived.Test.YtngcdkbnljoodaaWWords
import Derived.Test.YtngcdkbnljoodaaWLast
import Derived.Test.YtngcdkbnljoodaaWTab
import Derived.Test.YtngcdkbnljoodaaWFour
import Derived.Test.YtngcdkbnljoodaaWQPut
import Derived.Test.YtngcdkbnljoodaaWApart
import Derived.Test.YtngcdkbnljoodaaWArr
import Derived.Test.YtngcdkbnljoodaaWZeros
import Derived.Test.YtngcdkbnljoodaaWFoot
import Derived.Test.YtngcdkbnljoodaaWKept
import Derived.Test.YtngcdkbnljoodaaWShare
import Derived.Test.YtngcdkbnljoodaaWN
import Derived.Test.YtngcdkbnljoodaaWFootNe
import Derived.Test.YtngcdkbnljoodaaWAt
import Derived.Test.YtngcdkbnljoodaaWEqStruct
import Derived.Test.YtngcdkbnljoodaaWRepsOne
import Derived.Test.YtngcdkbnljoodaaWInv
import Derived.Test.YtngcdkbnljoodaaWInvWords
import Derived.Test.YtngcdkbnljoodaaWGuard
import Derived.Test.YtngcdkbnljoodaaWNEv
import Derived.Test.YtngcdkbnljoodaaWMore
namespace Go.Proofs.Ytngcdkbnljoodaa.P
open Go.RowKit Go.Proofs.YtngcdkbnljoodaaW.PrintWords Go.Proofs.YtngcdkbnljoodaaW.PrintLast Go.Proofs.YtngcdkbnljoodaaW.PrintMore
attribute [local go_sem] max2_int min2_int max_two min_two max_three min_three max_four min_four   -- for this text's walks alone
set_option linter.unusedVariables false
set_option linter.unusedSimpArgs false



def errW : Option Int → Value
  | none => .nilIface
  | some c => .iface 0 (.int .i64 c)
theorem errW_none : errW none = .nilIface := rfl
theorem errW_some (c : Int) : errW (some c) = .iface 0 (.int .i64 c) := rfl

theorem info5 : (Try.prog.info? 5).map (fun i => (i.zero, i.size, i.bytes)) = some (some (.int .u8 0), 1, 1) := by kernel_rfl
theorem info9 : (Try.prog.info? 9).map (fun i => (i.zero, i.size, i.bytes)) = some (some (.string ⟨#[]⟩), 1, 16) := by kernel_rfl
-- the values' own types

end Go.Proofs.Ytngcdkbnljoodaa.P
