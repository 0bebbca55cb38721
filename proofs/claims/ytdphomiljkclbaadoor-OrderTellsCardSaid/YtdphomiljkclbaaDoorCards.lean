/-
  DERIVED. GIVEN WITH THE SEED: THE CARDS: each row of YtdphomiljkclbaaDoorRows.lean that lists a variable, with what it lists TIED to the program's text (the seventh form; the later family's looks); each row that meets fmt, with fmt's text TOLD by the authors' own Lean function (tested against real Go, not proved from fmt's source: count such statements apart). THE CARD IS WHAT COUNTS. Prove the row's statement (the work); the ties are given (YtdphomiljkclbaaDoorTie.lean); close each card by the builder's one call (the guide's Derived/Test/ToyasCard.lean, 'card_holds'). Laid BY PROGRAM, IN A SANDBOX (cutbox-door.mjs). By AI agents, Wed Nov 11 2026. No macro, syntax, notation, axiom, sorry.
-/
import Derived.Test.YtdphomiljkclbaaDoorRows
import GoSem.ClaimSeven
namespace Go.Proofs.YtdphomiljkclbaaDoor
namespace Rows

/-- THE TIED CARD OF 'replevinlaw15.OrderTells'. -/
def orderTellsCard : Claim7 := { stood := { row := orderTellsRow, standIns := [], harness := (true, "2c644ec1d55a2cf48aa675524ef321c6fd19166df650eb95ae156a9b38b9bf29"), looks := false }, kinds := [], alts := [], laidByText := true, laidKinds := [.data, .data, .data], laidTests := true, laidLooks := .later }
def OrderTellsCardSaid : Prop := Claim7.holds Tryd.pinned (.plain (OpenSpec.ofChange orderTellsSpec)) orderTellsCard

/-- THE TIED CARD OF 'replevinlaw15.OrderBack'. -/
def orderBackCard : Claim7 := { stood := { row := orderBackRow, standIns := [], harness := (true, "2c644ec1d55a2cf48aa675524ef321c6fd19166df650eb95ae156a9b38b9bf29"), looks := false }, kinds := [], alts := [], laidByText := true, laidKinds := [.data, .data, .data], laidTests := true, laidLooks := .later }
def OrderBackCardSaid : Prop := Claim7.holds Tryd.pinned (.plain (OpenSpec.ofChange orderBackSpec)) orderBackCard

/-- THE TIED CARD OF 'replevinlaw15.OrderEnds'. -/
def orderEndsCard : Claim7 := { stood := { row := orderEndsRow, standIns := [], harness := (true, "2c644ec1d55a2cf48aa675524ef321c6fd19166df650eb95ae156a9b38b9bf29"), looks := false }, kinds := [], alts := [], laidByText := true, laidKinds := [.data, .data, .data], laidTests := true, laidLooks := .later }
def OrderEndsCardSaid : Prop := Claim7.holds Tryd.pinned (.plain (OpenSpec.ofChange orderEndsSpec)) orderEndsCard

/-- THE SECOND FORM's CARD OF 'replevinlaw15.OrderTells'. -/
def orderTellsUptoCard : Claim7 := { stood := { row := orderTellsUptoRow, standIns := [], harness := (true, "2c644ec1d55a2cf48aa675524ef321c6fd19166df650eb95ae156a9b38b9bf29"), looks := false }, kinds := [], alts := [], laidByText := true, laidKinds := [.data, .data, .data], laidTests := true, laidLooks := .later }
def OrderTellsUptoCardSaid : Prop := Claim7.holds Tryd.pinned (.plain (OpenSpec.upto orderTellsSpec)) orderTellsUptoCard

/-- THE SECOND FORM's CARD OF 'replevinlaw15.OrderBack'. -/
def orderBackUptoCard : Claim7 := { stood := { row := orderBackUptoRow, standIns := [], harness := (true, "2c644ec1d55a2cf48aa675524ef321c6fd19166df650eb95ae156a9b38b9bf29"), looks := false }, kinds := [], alts := [], laidByText := true, laidKinds := [.data, .data, .data], laidTests := true, laidLooks := .later }
def OrderBackUptoCardSaid : Prop := Claim7.holds Tryd.pinned (.plain (OpenSpec.upto orderBackSpec)) orderBackUptoCard

/-- THE SECOND FORM's CARD OF 'replevinlaw15.OrderEnds'. -/
def orderEndsUptoCard : Claim7 := { stood := { row := orderEndsUptoRow, standIns := [], harness := (true, "2c644ec1d55a2cf48aa675524ef321c6fd19166df650eb95ae156a9b38b9bf29"), looks := false }, kinds := [], alts := [], laidByText := true, laidKinds := [.data, .data, .data], laidTests := true, laidLooks := .later }
def OrderEndsUptoCardSaid : Prop := Claim7.holds Tryd.pinned (.plain (OpenSpec.upto orderEndsSpec)) orderEndsUptoCard
end Rows
end Go.Proofs.YtdphomiljkclbaaDoor
