/-
  DERIVED. GIVEN WITH THE SEED: THE CARDS: each row of YtnnblmibonnpcaaGreatDoorRows.lean that lists a variable, with what it lists TIED to the program's text (the seventh form; the later family's looks); each row that meets fmt, with fmt's text TOLD by the authors' own Lean function (tested against real Go, not proved from fmt's source: count such statements apart). THE CARD IS WHAT COUNTS. Prove the row's statement (the work); the ties are given (YtnnblmibonnpcaaGreatDoorTie.lean); close each card by the builder's one call (the guide's Derived/Test/ToyasCard.lean, 'card_holds'). Laid BY PROGRAM, IN A SANDBOX (cutbox-door.mjs). By AI agents, Wed Nov 11 2026. No macro, syntax, notation, axiom, sorry.
-/
import Derived.Test.YtnnblmibonnpcaaGreatDoorRows
import GoSem.ClaimSeven
namespace Go.Proofs.YtnnblmibonnpcaaGreatDoor
namespace Rows

/-- THE TIED CARD OF 'laws.FnCharacteristicPlugs'. -/
def fnCharacteristicPlugsCard : Claim7 := { stood := { row := fnCharacteristicPlugsRow, standIns := [], harness := (true, "b03a3ec0f8f84803420c9275726436a885eda36eef2f4d8bf033bb7eb5b72bd8"), looks := false }, kinds := [], alts := [], laidByText := true, laidKinds := [.data, .data, .data], laidTests := true, laidLooks := .later }
def FnCharacteristicPlugsCardSaid : Prop := Claim7.holds Tryz.pinned (.plain (OpenSpec.ofChange fnCharacteristicPlugsSpec)) fnCharacteristicPlugsCard

/-- THE TIED CARD OF 'laws.FnExactGroundsWith'. -/
def fnExactGroundsWithCard : Claim7 := { stood := { row := fnExactGroundsWithRow, standIns := [], harness := (true, "b03a3ec0f8f84803420c9275726436a885eda36eef2f4d8bf033bb7eb5b72bd8"), looks := false }, kinds := [], alts := [], laidByText := true, laidKinds := [.data, .data, .data], laidTests := true, laidLooks := .later }
def FnExactGroundsWithCardSaid : Prop := Claim7.holds Tryz.pinned (.plain (OpenSpec.ofChange fnExactGroundsWithSpec)) fnExactGroundsWithCard

/-- THE TIED CARD OF 'laws.FnGroundsKept'. -/
def fnGroundsKeptCard : Claim7 := { stood := { row := fnGroundsKeptRow, standIns := [], harness := (true, "b03a3ec0f8f84803420c9275726436a885eda36eef2f4d8bf033bb7eb5b72bd8"), looks := false }, kinds := [], alts := [], laidByText := true, laidKinds := [.data, .data, .data], laidTests := true, laidLooks := .later }
def FnGroundsKeptCardSaid : Prop := Claim7.holds Tryz.pinned (.plain (OpenSpec.ofChange fnGroundsKeptSpec)) fnGroundsKeptCard

/-- THE TIED CARD OF 'laws.FnExactCharacteristic'. -/
def fnExactCharacteristicCard : Claim7 := { stood := { row := fnExactCharacteristicRow, standIns := [], harness := (true, "b03a3ec0f8f84803420c9275726436a885eda36eef2f4d8bf033bb7eb5b72bd8"), looks := false }, kinds := [], alts := [], laidByText := true, laidKinds := [.data, .data, .data], laidTests := true, laidLooks := .later }
def FnExactCharacteristicCardSaid : Prop := Claim7.holds Tryz.pinned (.plain (OpenSpec.ofChange fnExactCharacteristicSpec)) fnExactCharacteristicCard

/-- THE TIED CARD OF 'laws.FnCharacteristicText'. -/
def fnCharacteristicTextCard : Claim7 := { stood := { row := fnCharacteristicTextRow, standIns := [], harness := (true, "b03a3ec0f8f84803420c9275726436a885eda36eef2f4d8bf033bb7eb5b72bd8"), looks := false }, kinds := [], alts := [], laidByText := true, laidKinds := [.data, .data, .data], laidTests := true, laidLooks := .later }
def FnCharacteristicTextCardSaid : Prop := Claim7.holds Tryz.pinned (.plain (OpenSpec.ofChange fnCharacteristicTextSpec)) fnCharacteristicTextCard

/-- THE SECOND FORM's CARD OF 'laws.FnCharacteristicPlugs'. -/
def fnCharacteristicPlugsUptoCard : Claim7 := { stood := { row := fnCharacteristicPlugsUptoRow, standIns := [], harness := (true, "b03a3ec0f8f84803420c9275726436a885eda36eef2f4d8bf033bb7eb5b72bd8"), looks := false }, kinds := [], alts := [], laidByText := true, laidKinds := [.data, .data, .data], laidTests := true, laidLooks := .later }
def FnCharacteristicPlugsUptoCardSaid : Prop := Claim7.holds Tryz.pinned (.plain (OpenSpec.upto fnCharacteristicPlugsSpec)) fnCharacteristicPlugsUptoCard

/-- THE SECOND FORM's CARD OF 'laws.FnExactGroundsWith'. -/
def fnExactGroundsWithUptoCard : Claim7 := { stood := { row := fnExactGroundsWithUptoRow, standIns := [], harness := (true, "b03a3ec0f8f84803420c9275726436a885eda36eef2f4d8bf033bb7eb5b72bd8"), looks := false }, kinds := [], alts := [], laidByText := true, laidKinds := [.data, .data, .data], laidTests := true, laidLooks := .later }
def FnExactGroundsWithUptoCardSaid : Prop := Claim7.holds Tryz.pinned (.plain (OpenSpec.upto fnExactGroundsWithSpec)) fnExactGroundsWithUptoCard

/-- THE SECOND FORM's CARD OF 'laws.FnGroundsKept'. -/
def fnGroundsKeptUptoCard : Claim7 := { stood := { row := fnGroundsKeptUptoRow, standIns := [], harness := (true, "b03a3ec0f8f84803420c9275726436a885eda36eef2f4d8bf033bb7eb5b72bd8"), looks := false }, kinds := [], alts := [], laidByText := true, laidKinds := [.data, .data, .data], laidTests := true, laidLooks := .later }
def FnGroundsKeptUptoCardSaid : Prop := Claim7.holds Tryz.pinned (.plain (OpenSpec.upto fnGroundsKeptSpec)) fnGroundsKeptUptoCard

/-- THE SECOND FORM's CARD OF 'laws.FnExactCharacteristic'. -/
def fnExactCharacteristicUptoCard : Claim7 := { stood := { row := fnExactCharacteristicUptoRow, standIns := [], harness := (true, "b03a3ec0f8f84803420c9275726436a885eda36eef2f4d8bf033bb7eb5b72bd8"), looks := false }, kinds := [], alts := [], laidByText := true, laidKinds := [.data, .data, .data], laidTests := true, laidLooks := .later }
def FnExactCharacteristicUptoCardSaid : Prop := Claim7.holds Tryz.pinned (.plain (OpenSpec.upto fnExactCharacteristicSpec)) fnExactCharacteristicUptoCard

/-- THE SECOND FORM's CARD OF 'laws.FnCharacteristicText'. -/
def fnCharacteristicTextUptoCard : Claim7 := { stood := { row := fnCharacteristicTextUptoRow, standIns := [], harness := (true, "b03a3ec0f8f84803420c9275726436a885eda36eef2f4d8bf033bb7eb5b72bd8"), looks := false }, kinds := [], alts := [], laidByText := true, laidKinds := [.data, .data, .data], laidTests := true, laidLooks := .later }
def FnCharacteristicTextUptoCardSaid : Prop := Claim7.holds Tryz.pinned (.plain (OpenSpec.upto fnCharacteristicTextSpec)) fnCharacteristicTextUptoCard
end Rows
end Go.Proofs.YtnnblmibonnpcaaGreatDoor
