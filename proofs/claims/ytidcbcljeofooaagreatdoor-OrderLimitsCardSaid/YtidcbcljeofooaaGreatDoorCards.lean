/-
  DERIVED. GIVEN WITH THE SEED: THE CARDS: each row of YtidcbcljeofooaaGreatDoorRows.lean that lists a variable, with what it lists TIED to the program's text (the seventh form; the later family's looks); each row that meets fmt, with fmt's text TOLD by the authors' own Lean function (tested against real Go, not proved from fmt's source: count such statements apart). THE CARD IS WHAT COUNTS. Prove the row's statement (the work); the ties are given (YtidcbcljeofooaaGreatDoorTie.lean); close each card by the builder's one call (the guide's Derived/Test/ToyasCard.lean, 'card_holds'). Laid BY PROGRAM, IN A SANDBOX (cutbox-door.mjs). By AI agents, Wed Nov 11 2026. No macro, syntax, notation, axiom, sorry.
-/
import Derived.Test.YtidcbcljeofooaaGreatDoorRows
import GoSem.ClaimSeven
namespace Go.Proofs.YtidcbcljeofooaaGreatDoor
namespace Rows

/-- THE TIED CARD OF 'droverlaw20.OrderParses'. -/
def orderParsesCard : Claim7 := { stood := { row := orderParsesRow, standIns := [], harness := (true, "121185b2219a08904010f37a02496959dcd822f405262c7ebe045316eb40e0cb"), looks := true }, kinds := [], alts := [], laidByText := true, laidKinds := [.data, .pinned], laidTests := true, laidLooks := .later }
def OrderParsesCardSaid : Prop := Claim7.holds Tryz.pinned (.plain (OpenSpec.ofChange orderParsesSpec)) orderParsesCard

/-- THE TIED CARD OF 'droverlaw20.OrderPrints'. -/
def orderPrintsCard : Claim7 := { stood := { row := orderPrintsRow, standIns := [], harness := (true, "121185b2219a08904010f37a02496959dcd822f405262c7ebe045316eb40e0cb"), looks := true }, kinds := [], alts := [], laidByText := true, laidKinds := [.data, .data, .data, .data, .pinned], laidTests := true, laidLooks := .later }
def OrderPrintsCardSaid : Prop := Claim7.holds Tryz.pinned (.plain (OpenSpec.ofChange orderPrintsSpec)) orderPrintsCard

/-- THE TIED CARD OF 'droverlaw20.OrderBack'. -/
def orderBackCard : Claim7 := { stood := { row := orderBackRow, standIns := [], harness := (true, "121185b2219a08904010f37a02496959dcd822f405262c7ebe045316eb40e0cb"), looks := true }, kinds := [], alts := [], laidByText := true, laidKinds := [.data, .data, .data, .data, .pinned], laidTests := true, laidLooks := .later }
def OrderBackCardSaid : Prop := Claim7.holds Tryz.pinned (.plain (OpenSpec.ofChange orderBackSpec)) orderBackCard

/-- THE TIED CARD OF 'droverlaw20.OrderLimits'. -/
def orderLimitsCard : Claim7 := { stood := { row := orderLimitsRow, standIns := [], harness := (true, "121185b2219a08904010f37a02496959dcd822f405262c7ebe045316eb40e0cb"), looks := true }, kinds := [], alts := [], laidByText := true, laidKinds := [.data, .data, .data, .data, .pinned], laidTests := true, laidLooks := .later }
def OrderLimitsCardSaid : Prop := Claim7.holds Tryz.pinned (.plain (OpenSpec.ofChange orderLimitsSpec)) orderLimitsCard

/-- THE TIED CARD OF 'droverlaw20.OrderTells'. -/
def orderTellsCard : Claim7 := { stood := { row := orderTellsRow, standIns := [], harness := (true, "121185b2219a08904010f37a02496959dcd822f405262c7ebe045316eb40e0cb"), looks := true }, kinds := [], alts := [], laidByText := true, laidKinds := [.data, .data, .data, .data, .pinned], laidTests := true, laidLooks := .later }
def OrderTellsCardSaid : Prop := Claim7.holds Tryz.pinned (.plain (OpenSpec.ofChange orderTellsSpec)) orderTellsCard

/-- THE SECOND FORM's CARD OF 'droverlaw20.OrderParses'. -/
def orderParsesUptoCard : Claim7 := { stood := { row := orderParsesUptoRow, standIns := [], harness := (true, "121185b2219a08904010f37a02496959dcd822f405262c7ebe045316eb40e0cb"), looks := true }, kinds := [], alts := [], laidByText := true, laidKinds := [.data, .pinned], laidTests := true, laidLooks := .later }
def OrderParsesUptoCardSaid : Prop := Claim7.holds Tryz.pinned (.plain (OpenSpec.upto orderParsesSpec)) orderParsesUptoCard

/-- THE SECOND FORM's CARD OF 'droverlaw20.OrderPrints'. -/
def orderPrintsUptoCard : Claim7 := { stood := { row := orderPrintsUptoRow, standIns := [], harness := (true, "121185b2219a08904010f37a02496959dcd822f405262c7ebe045316eb40e0cb"), looks := true }, kinds := [], alts := [], laidByText := true, laidKinds := [.data, .data, .data, .data, .pinned], laidTests := true, laidLooks := .later }
def OrderPrintsUptoCardSaid : Prop := Claim7.holds Tryz.pinned (.plain (OpenSpec.upto orderPrintsSpec)) orderPrintsUptoCard

/-- THE SECOND FORM's CARD OF 'droverlaw20.OrderBack'. -/
def orderBackUptoCard : Claim7 := { stood := { row := orderBackUptoRow, standIns := [], harness := (true, "121185b2219a08904010f37a02496959dcd822f405262c7ebe045316eb40e0cb"), looks := true }, kinds := [], alts := [], laidByText := true, laidKinds := [.data, .data, .data, .data, .pinned], laidTests := true, laidLooks := .later }
def OrderBackUptoCardSaid : Prop := Claim7.holds Tryz.pinned (.plain (OpenSpec.upto orderBackSpec)) orderBackUptoCard

/-- THE SECOND FORM's CARD OF 'droverlaw20.OrderLimits'. -/
def orderLimitsUptoCard : Claim7 := { stood := { row := orderLimitsUptoRow, standIns := [], harness := (true, "121185b2219a08904010f37a02496959dcd822f405262c7ebe045316eb40e0cb"), looks := true }, kinds := [], alts := [], laidByText := true, laidKinds := [.data, .data, .data, .data, .pinned], laidTests := true, laidLooks := .later }
def OrderLimitsUptoCardSaid : Prop := Claim7.holds Tryz.pinned (.plain (OpenSpec.upto orderLimitsSpec)) orderLimitsUptoCard

/-- THE SECOND FORM's CARD OF 'droverlaw20.OrderTells'. -/
def orderTellsUptoCard : Claim7 := { stood := { row := orderTellsUptoRow, standIns := [], harness := (true, "121185b2219a08904010f37a02496959dcd822f405262c7ebe045316eb40e0cb"), looks := true }, kinds := [], alts := [], laidByText := true, laidKinds := [.data, .data, .data, .data, .pinned], laidTests := true, laidLooks := .later }
def OrderTellsUptoCardSaid : Prop := Claim7.holds Tryz.pinned (.plain (OpenSpec.upto orderTellsSpec)) orderTellsUptoCard
end Rows
end Go.Proofs.YtidcbcljeofooaaGreatDoor
