/-
  DERIVED. GIVEN WITH THE SEED: THE CARDS: each row of YtlciijcfhfcbkaaDoorRows.lean that lists a variable, with what it lists TIED to the program's text (the seventh form; the later family's looks); each row that meets fmt, with fmt's text TOLD by the authors' own Lean function (tested against real Go, not proved from fmt's source: count such statements apart). THE CARD IS WHAT COUNTS. Prove the row's statement (the work); the ties are given (YtlciijcfhfcbkaaDoorTie.lean); close each card by the builder's one call (the guide's Derived/Test/ToyasCard.lean, 'card_holds'). Laid BY PROGRAM, IN A SANDBOX (cutbox-door.mjs). By AI agents, Wed Nov 11 2026. No macro, syntax, notation, axiom, sorry.
-/
import Derived.Test.YtlciijcfhfcbkaaDoorRows
import GoSem.ClaimSeven
namespace Go.Proofs.YtlciijcfhfcbkaaDoor
namespace Rows

/-- THE TIED CARD OF 'droverlaw01.RunesChecks'. -/
def runesChecksCard : Claim7 := { stood := { row := runesChecksRow, standIns := [], harness := (true, "40768524899fb11867e686927f66775dbee33f7a64c673483744c2f861f3780d"), looks := true }, kinds := [], alts := [], laidByText := true, laidKinds := [.data, .pinned], laidTests := true, laidLooks := .later }
def RunesChecksCardSaid : Prop := Claim7.holds Tryd.pinned (.plain (OpenSpec.ofChange runesChecksSpec)) runesChecksCard

/-- THE TIED CARD OF 'droverlaw01.RunesWords'. -/
def runesWordsCard : Claim7 := { stood := { row := runesWordsRow, standIns := [], harness := (true, "40768524899fb11867e686927f66775dbee33f7a64c673483744c2f861f3780d"), looks := true }, kinds := [], alts := [], laidByText := true, laidKinds := [.data, .pinned], laidTests := true, laidLooks := .later }
def RunesWordsCardSaid : Prop := Claim7.holds Tryd.pinned (.plain (OpenSpec.ofChange runesWordsSpec)) runesWordsCard

/-- THE TIED CARD OF 'droverlaw01.RunesBoth'. -/
def runesBothCard : Claim7 := { stood := { row := runesBothRow, standIns := [], harness := (true, "40768524899fb11867e686927f66775dbee33f7a64c673483744c2f861f3780d"), looks := true }, kinds := [], alts := [], laidByText := true, laidKinds := [.data, .pinned], laidTests := true, laidLooks := .later }
def RunesBothCardSaid : Prop := Claim7.holds Tryd.pinned (.plain (OpenSpec.ofChange runesBothSpec)) runesBothCard

/-- THE TIED CARD OF 'droverlaw01.RunesJoins'. -/
def runesJoinsCard : Claim7 := { stood := { row := runesJoinsRow, standIns := [], harness := (true, "40768524899fb11867e686927f66775dbee33f7a64c673483744c2f861f3780d"), looks := true }, kinds := [], alts := [], laidByText := true, laidKinds := [.data, .pinned], laidTests := true, laidLooks := .later }
def RunesJoinsCardSaid : Prop := Claim7.holds Tryd.pinned (.plain (OpenSpec.ofChange runesJoinsSpec)) runesJoinsCard

/-- THE TIED CARD OF 'droverlaw01.RunesNames'. -/
def runesNamesCard : Claim7 := { stood := { row := runesNamesRow, standIns := [], harness := (true, "40768524899fb11867e686927f66775dbee33f7a64c673483744c2f861f3780d"), looks := true }, kinds := [], alts := [], laidByText := true, laidKinds := [.data, .pinned], laidTests := true, laidLooks := .later }
def RunesNamesCardSaid : Prop := Claim7.holds Tryd.pinned (.plain (OpenSpec.ofChange runesNamesSpec)) runesNamesCard

/-- THE SECOND FORM's CARD OF 'droverlaw01.RunesChecks'. -/
def runesChecksUptoCard : Claim7 := { stood := { row := runesChecksUptoRow, standIns := [], harness := (true, "40768524899fb11867e686927f66775dbee33f7a64c673483744c2f861f3780d"), looks := true }, kinds := [], alts := [], laidByText := true, laidKinds := [.data, .pinned], laidTests := true, laidLooks := .later }
def RunesChecksUptoCardSaid : Prop := Claim7.holds Tryd.pinned (.plain (OpenSpec.upto runesChecksSpec)) runesChecksUptoCard

/-- THE SECOND FORM's CARD OF 'droverlaw01.RunesWords'. -/
def runesWordsUptoCard : Claim7 := { stood := { row := runesWordsUptoRow, standIns := [], harness := (true, "40768524899fb11867e686927f66775dbee33f7a64c673483744c2f861f3780d"), looks := true }, kinds := [], alts := [], laidByText := true, laidKinds := [.data, .pinned], laidTests := true, laidLooks := .later }
def RunesWordsUptoCardSaid : Prop := Claim7.holds Tryd.pinned (.plain (OpenSpec.upto runesWordsSpec)) runesWordsUptoCard

/-- THE SECOND FORM's CARD OF 'droverlaw01.RunesBoth'. -/
def runesBothUptoCard : Claim7 := { stood := { row := runesBothUptoRow, standIns := [], harness := (true, "40768524899fb11867e686927f66775dbee33f7a64c673483744c2f861f3780d"), looks := true }, kinds := [], alts := [], laidByText := true, laidKinds := [.data, .pinned], laidTests := true, laidLooks := .later }
def RunesBothUptoCardSaid : Prop := Claim7.holds Tryd.pinned (.plain (OpenSpec.upto runesBothSpec)) runesBothUptoCard

/-- THE SECOND FORM's CARD OF 'droverlaw01.RunesJoins'. -/
def runesJoinsUptoCard : Claim7 := { stood := { row := runesJoinsUptoRow, standIns := [], harness := (true, "40768524899fb11867e686927f66775dbee33f7a64c673483744c2f861f3780d"), looks := true }, kinds := [], alts := [], laidByText := true, laidKinds := [.data, .pinned], laidTests := true, laidLooks := .later }
def RunesJoinsUptoCardSaid : Prop := Claim7.holds Tryd.pinned (.plain (OpenSpec.upto runesJoinsSpec)) runesJoinsUptoCard

/-- THE SECOND FORM's CARD OF 'droverlaw01.RunesNames'. -/
def runesNamesUptoCard : Claim7 := { stood := { row := runesNamesUptoRow, standIns := [], harness := (true, "40768524899fb11867e686927f66775dbee33f7a64c673483744c2f861f3780d"), looks := true }, kinds := [], alts := [], laidByText := true, laidKinds := [.data, .pinned], laidTests := true, laidLooks := .later }
def RunesNamesUptoCardSaid : Prop := Claim7.holds Tryd.pinned (.plain (OpenSpec.upto runesNamesSpec)) runesNamesUptoCard
end Rows
end Go.Proofs.YtlciijcfhfcbkaaDoor
