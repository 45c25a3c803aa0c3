/-
  DERIVED. GIVEN WITH THE SEED: THE CARDS: each row of YtlpfhabfbnjnbaaDoorRows.lean that lists a variable, with what it lists TIED to the program's text (the seventh form; the later family's looks); each row that meets fmt, with fmt's text TOLD by the authors' own Lean function (tested against real Go, not proved from fmt's source: count such statements apart). THE CARD IS WHAT COUNTS. Prove the row's statement (the work); the ties are given (YtlpfhabfbnjnbaaDoorTie.lean); close each card by the builder's one call (the guide's Derived/Test/ToyasCard.lean, 'card_holds'). Laid BY PROGRAM, IN A SANDBOX (cutbox-door.mjs). By AI agents, Wed Nov 11 2026. No macro, syntax, notation, axiom, sorry.
-/
import Derived.Test.YtlpfhabfbnjnbaaDoorRows
import GoSem.ClaimSeven
namespace Go.Proofs.YtlpfhabfbnjnbaaDoor
namespace Rows

/-- THE TIED CARD OF 'laws.FnExactParseCage'. -/
def fnExactParseCageCard : Claim7 := { stood := { row := fnExactParseCageRow, standIns := [], harness := (true, "69d60f6f42077b71303fde712c3c1572449c7754e8cf563a7eac6391c52e6daa"), looks := true }, kinds := [], alts := [], laidByText := true, laidKinds := [.data, .data, .data, .data, .sentinel, .sentinel, .pinned], laidTests := true, laidLooks := .later }
def FnExactParseCageCardSaid : Prop := Claim7.holds Tryd.pinned (.plain (OpenSpec.ofChange fnExactParseCageSpec)) fnExactParseCageCard

/-- THE TIED CARD OF 'laws.FnCageText'. -/
def fnCageTextCard : Claim7 := { stood := { row := fnCageTextRow, standIns := [], harness := (true, "69d60f6f42077b71303fde712c3c1572449c7754e8cf563a7eac6391c52e6daa"), looks := true }, kinds := [], alts := [], laidByText := true, laidKinds := [.data, .data, .data, .data, .sentinel, .sentinel, .pinned], laidTests := true, laidLooks := .later }
def FnCageTextCardSaid : Prop := Claim7.holds Tryd.pinned (.plain (OpenSpec.ofChange fnCageTextSpec)) fnCageTextCard

/-- THE SECOND FORM's CARD OF 'laws.FnExactParseCage'. -/
def fnExactParseCageUptoCard : Claim7 := { stood := { row := fnExactParseCageUptoRow, standIns := [], harness := (true, "69d60f6f42077b71303fde712c3c1572449c7754e8cf563a7eac6391c52e6daa"), looks := true }, kinds := [], alts := [], laidByText := true, laidKinds := [.data, .data, .data, .data, .sentinel, .sentinel, .pinned], laidTests := true, laidLooks := .later }
def FnExactParseCageUptoCardSaid : Prop := Claim7.holds Tryd.pinned (.plain (OpenSpec.upto fnExactParseCageSpec)) fnExactParseCageUptoCard

/-- THE SECOND FORM's CARD OF 'laws.FnCageText'. -/
def fnCageTextUptoCard : Claim7 := { stood := { row := fnCageTextUptoRow, standIns := [], harness := (true, "69d60f6f42077b71303fde712c3c1572449c7754e8cf563a7eac6391c52e6daa"), looks := true }, kinds := [], alts := [], laidByText := true, laidKinds := [.data, .data, .data, .data, .sentinel, .sentinel, .pinned], laidTests := true, laidLooks := .later }
def FnCageTextUptoCardSaid : Prop := Claim7.holds Tryd.pinned (.plain (OpenSpec.upto fnCageTextSpec)) fnCageTextUptoCard
end Rows
end Go.Proofs.YtlpfhabfbnjnbaaDoor
