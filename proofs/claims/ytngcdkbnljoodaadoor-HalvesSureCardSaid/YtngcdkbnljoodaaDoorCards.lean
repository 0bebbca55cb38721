/-
  DERIVED. GIVEN WITH THE SEED: THE CARDS: each row of YtngcdkbnljoodaaDoorRows.lean that lists a variable, with what it lists TIED to the program's text (the seventh form; the later family's looks); each row that meets fmt, with fmt's text TOLD by the authors' own Lean function (tested against real Go, not proved from fmt's source: count such statements apart). THE CARD IS WHAT COUNTS. Prove the row's statement (the work); the ties are given (YtngcdkbnljoodaaDoorTie.lean); close each card by the builder's one call (the guide's Derived/Test/ToyasCard.lean, 'card_holds'). Laid BY PROGRAM, IN A SANDBOX (cutbox-door.mjs). By AI agents, Wed Nov 11 2026. No macro, syntax, notation, axiom, sorry.
-/
import Derived.Test.YtngcdkbnljoodaaDoorRows
import GoSem.ClaimSeven
namespace Go.Proofs.YtngcdkbnljoodaaDoor
namespace Rows

/-- THE TIED CARD OF 'replevinlaw17.HalvesSure'. -/
def halvesSureCard : Claim7 := { stood := { row := halvesSureRow, standIns := [], harness := (true, "9de5def7808305f59be03bfc625cdd510b733058224d29c64b737e694b80884d"), looks := true }, kinds := [], alts := [], laidByText := true, laidKinds := [.data, .data, .data, .sentinel, .sentinel], laidTests := true, laidLooks := .later }
def HalvesSureCardSaid : Prop := Claim7.holds Tryd.pinned (.plain (OpenSpec.ofChange halvesSureSpec)) halvesSureCard

/-- THE TIED CARD OF 'replevinlaw17.HalvesMake'. -/
def halvesMakeCard : Claim7 := { stood := { row := halvesMakeRow, standIns := [], harness := (true, "9de5def7808305f59be03bfc625cdd510b733058224d29c64b737e694b80884d"), looks := true }, kinds := [], alts := [], laidByText := true, laidKinds := [.data, .data, .data, .sentinel, .sentinel], laidTests := true, laidLooks := .later }
def HalvesMakeCardSaid : Prop := Claim7.holds Tryd.pinned (.plain (OpenSpec.ofChange halvesMakeSpec)) halvesMakeCard

/-- THE SECOND FORM's CARD OF 'replevinlaw17.HalvesSure'. -/
def halvesSureUptoCard : Claim7 := { stood := { row := halvesSureUptoRow, standIns := [], harness := (true, "9de5def7808305f59be03bfc625cdd510b733058224d29c64b737e694b80884d"), looks := true }, kinds := [], alts := [], laidByText := true, laidKinds := [.data, .data, .data, .sentinel, .sentinel], laidTests := true, laidLooks := .later }
def HalvesSureUptoCardSaid : Prop := Claim7.holds Tryd.pinned (.plain (OpenSpec.upto halvesSureSpec)) halvesSureUptoCard

/-- THE SECOND FORM's CARD OF 'replevinlaw17.HalvesMake'. -/
def halvesMakeUptoCard : Claim7 := { stood := { row := halvesMakeUptoRow, standIns := [], harness := (true, "9de5def7808305f59be03bfc625cdd510b733058224d29c64b737e694b80884d"), looks := true }, kinds := [], alts := [], laidByText := true, laidKinds := [.data, .data, .data, .sentinel, .sentinel], laidTests := true, laidLooks := .later }
def HalvesMakeUptoCardSaid : Prop := Claim7.holds Tryd.pinned (.plain (OpenSpec.upto halvesMakeSpec)) halvesMakeUptoCard
end Rows
end Go.Proofs.YtngcdkbnljoodaaDoor
