/- Functions of the program and of the law as Lean functions, with the proof that the calls answer so; written by a program. No conditions beyond those typed. -/
import Derived.Test.YtngcdkbnljoodaaGreatDoorProg
import Derived.Below
import Derived.Deep.Draws
import Derived.Deep.AppendLies
import Derived.Maps.AppendAt
import Derived.OwnWalk
import Derived.Laws.BytesArg
import Derived.Laws.MakeOwn
import Derived.Laws.OwnMore
import Derived.Deep.OwnRows
import Derived.Tactics
import Derived.Lib.ConvBytes
import Derived.Laws.Slices
import Derived.WalkKit
import Derived.KernelRfl
import Derived.RowKit3
import Derived.Deep.LoopGhost
import Derived.Deep.QuietTactic
import Derived.BigQuiet
import Derived.WideLaws
import Derived.Deep.DeepCutAuto
import Derived.Deep.CutBlock
import Derived.Deep.RegionHeld3
import Derived.Laws.Rows
import Derived.Lib.AppendStr
import Derived.ArgAppend
import Derived.Laws.IdiomCopy
import Derived.OrdersHeld
import Derived.Laws.BitsLemmas
import Derived.RowKit
import Derived.Test.YtngcdkbnljoodaaGreatDoorWWords
import Derived.Test.YtngcdkbnljoodaaGreatDoorWLast
import Derived.Test.YtngcdkbnljoodaaGreatDoorWTab
import Derived.Test.YtngcdkbnljoodaaGreatDoorWFour
import Derived.Test.YtngcdkbnljoodaaGreatDoorWQPut
import Derived.Test.YtngcdkbnljoodaaGreatDoorWApart
import Derived.Test.YtngcdkbnljoodaaGreatDoorWArr
import Derived.Test.YtngcdkbnljoodaaGreatDoorWZeros
import Derived.Test.YtngcdkbnljoodaaGreatDoorWFoot
import Derived.Test.YtngcdkbnljoodaaGreatDoorWKept
import Derived.Test.YtngcdkbnljoodaaGreatDoorWShare
import Derived.Test.YtngcdkbnljoodaaGreatDoorWN
import Derived.Test.YtngcdkbnljoodaaGreatDoorWFootNe
import Derived.Test.YtngcdkbnljoodaaGreatDoorWAt
import Derived.Test.YtngcdkbnljoodaaGreatDoorWEqStruct
import Derived.Test.YtngcdkbnljoodaaGreatDoorWRepsOne
import Derived.Test.YtngcdkbnljoodaaGreatDoorWInv
import Derived.Test.YtngcdkbnljoodaaGreatDoorWInvWords
import Derived.Test.YtngcdkbnljoodaaGreatDoorWGuard
import Derived.Test.YtngcdkbnljoodaaGreatDoorWNEv
import Derived.Test.YtngcdkbnljoodaaGreatDoorWMore
namespace Go.Proofs.YtngcdkbnljoodaaGreatDoor.P
open Go.RowKit Go.Proofs.YtngcdkbnljoodaaGreatDoorW.PrintWords Go.Proofs.YtngcdkbnljoodaaGreatDoorW.PrintLast Go.Proofs.YtngcdkbnljoodaaGreatDoorW.PrintMore
attribute [local go_sem] max2_int min2_int max_two min_two max_three min_three max_four min_four   -- for this text's walks alone
set_option linter.unusedVariables false
set_option linter.unusedSimpArgs false



def errW : Option Int → Value
  | none => .nilIface
  | some c => .iface 145 (.int .i64 c)
theorem errW_none : errW none = .nilIface := rfl
theorem errW_some (c : Int) : errW (some c) = .iface 145 (.int .i64 c) := rfl

theorem info5 : (Tryz.prog.info? 5).map (fun i => (i.zero, i.size, i.bytes)) = some (some (.int .u8 0), 1, 1) := by kernel_rfl
theorem info9 : (Tryz.prog.info? 9).map (fun i => (i.zero, i.size, i.bytes)) = some (some (.string ⟨#[]⟩), 1, 16) := by kernel_rfl
-- the values' own types

end Go.Proofs.YtngcdkbnljoodaaGreatDoor.P
