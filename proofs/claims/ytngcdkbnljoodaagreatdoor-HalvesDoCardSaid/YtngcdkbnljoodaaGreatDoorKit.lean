/- Lemmas and contracts for the functions of one layer of the program, used by the law's proof. No conditions beyond those typed. -/
import Derived.Test.YtngcdkbnljoodaaGreatDoorWWords
import Derived.Test.YtngcdkbnljoodaaGreatDoorWLast
import Derived.Test.YtngcdkbnljoodaaGreatDoorWMore
import Derived.Test.YtngcdkbnljoodaaGreatDoorWShare
import Derived.WalkSpells
import Derived.WalkLawsBesides
import Derived.Lib.Hide
namespace Go.Proofs.YtngcdkbnljoodaaGreatDoor
set_option linter.unusedVariables false
set_option linter.unusedSimpArgs false
open Go.RowKit Go.Proofs.YtngcdkbnljoodaaGreatDoorW.PrintWords

end Go.Proofs.YtngcdkbnljoodaaGreatDoor

