/-
  DERIVED. GIVEN WITH THE SEED: THE CARDS: each row of YtngcdkbnljoodaaGreatDoorRows.lean that lists a variable, with what it lists TIED to the program's text (the seventh form; the later family's looks); each row that meets fmt, with fmt's text TOLD by the authors' own Lean function (tested against real Go, not proved from fmt's source: count such statements apart). THE CARD IS WHAT COUNTS. Prove the row's statement (the work); the ties are given (YtngcdkbnljoodaaGreatDoorTie.lean); close each card by the builder's one call (the guide's Derived/Test/ToyasCard.lean, 'card_holds'). Laid BY PROGRAM, IN A SANDBOX (cutbox-door.mjs). By AI agents, Wed Nov 11 2026. No macro, syntax, notation, axiom, sorry.
-/
import Derived.Test.YtngcdkbnljoodaaGreatDoorRows
import GoSem.ClaimSeven
namespace Go.Proofs.YtngcdkbnljoodaaGreatDoor
namespace Rows

/-- THE TIED CARD OF 'replevinlaw17.HalvesDo'. -/
def halvesDoCard : Claim7 := { stood := { row := halvesDoRow, standIns := [], harness := (true, "1fda87b888608170db1f823a5c0ba1e61a01b16f05e48692229e291afb117f4d"), looks := true }, kinds := [], alts := [], laidByText := true, laidKinds := [.data, .data, .data, .sentinel, .sentinel], laidTests := true, laidLooks := .later }
def HalvesDoCardSaid : Prop := Claim7.holds Tryz.pinned (.plain (OpenSpec.ofChange halvesDoSpec)) halvesDoCard

/-- THE SECOND FORM's CARD OF 'replevinlaw17.HalvesDo'. -/
def halvesDoUptoCard : Claim7 := { stood := { row := halvesDoUptoRow, standIns := [], harness := (true, "1fda87b888608170db1f823a5c0ba1e61a01b16f05e48692229e291afb117f4d"), looks := true }, kinds := [], alts := [], laidByText := true, laidKinds := [.data, .data, .data, .sentinel, .sentinel], laidTests := true, laidLooks := .later }
def HalvesDoUptoCardSaid : Prop := Claim7.holds Tryz.pinned (.plain (OpenSpec.upto halvesDoSpec)) halvesDoUptoCard
end Rows
end Go.Proofs.YtngcdkbnljoodaaGreatDoor
