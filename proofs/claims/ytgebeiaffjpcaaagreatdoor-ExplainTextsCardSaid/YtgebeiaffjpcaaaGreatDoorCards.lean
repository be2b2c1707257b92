/-
  DERIVED. GIVEN WITH THE SEED: THE CARDS: each row of YtgebeiaffjpcaaaGreatDoorRows.lean that lists a variable, with what it lists TIED to the program's text (the seventh form; the later family's looks); each row that meets fmt, with fmt's text TOLD by the authors' own Lean function (tested against real Go, not proved from fmt's source: count such statements apart). THE CARD IS WHAT COUNTS. Prove the row's statement (the work); the ties are given (YtgebeiaffjpcaaaGreatDoorTie.lean); close each card by the builder's one call (the guide's Derived/Test/ToyasCard.lean, 'card_holds'). Laid BY PROGRAM, IN A SANDBOX (cutbox-door.mjs). By AI agents, Wed Nov 11 2026. No macro, syntax, notation, axiom, sorry.
-/
import Derived.Test.YtgebeiaffjpcaaaGreatDoorRows
import GoSem.ClaimSeven
namespace Go.Proofs.YtgebeiaffjpcaaaGreatDoor
namespace Rows

/-- THE TIED CARD OF 'ferrulelaw29.ExplainTexts'. -/
def explainTextsCard : Claim7 := { stood := { row := explainTextsRow, standIns := [], harness := (true, "ec7715afe62287f5252169bba7e545d61c74586683eefa925801fda97159b086"), looks := true }, kinds := [], alts := [], laidByText := true, laidKinds := [.data, .data, .data, .data, .sentinel, .sentinel, .data, .pinned], laidTests := true, laidLooks := .later }
def ExplainTextsCardSaid : Prop := Claim7.holds Tryz.pinned (.plain (OpenSpec.ofChange explainTextsSpec)) explainTextsCard

/-- THE TIED CARD OF 'ferrulelaw29.ExplainReads'. -/
def explainReadsCard : Claim7 := { stood := { row := explainReadsRow, standIns := [], harness := (true, "ec7715afe62287f5252169bba7e545d61c74586683eefa925801fda97159b086"), looks := true }, kinds := [], alts := [], laidByText := true, laidKinds := [.data, .data, .data, .data, .sentinel, .sentinel, .data, .pinned], laidTests := true, laidLooks := .later }
def ExplainReadsCardSaid : Prop := Claim7.holds Tryz.pinned (.plain (OpenSpec.ofChange explainReadsSpec)) explainReadsCard

/-- THE SECOND FORM's CARD OF 'ferrulelaw29.ExplainTexts'. -/
def explainTextsUptoCard : Claim7 := { stood := { row := explainTextsUptoRow, standIns := [], harness := (true, "ec7715afe62287f5252169bba7e545d61c74586683eefa925801fda97159b086"), looks := true }, kinds := [], alts := [], laidByText := true, laidKinds := [.data, .data, .data, .data, .sentinel, .sentinel, .data, .pinned], laidTests := true, laidLooks := .later }
def ExplainTextsUptoCardSaid : Prop := Claim7.holds Tryz.pinned (.plain (OpenSpec.upto explainTextsSpec)) explainTextsUptoCard

/-- THE SECOND FORM's CARD OF 'ferrulelaw29.ExplainReads'. -/
def explainReadsUptoCard : Claim7 := { stood := { row := explainReadsUptoRow, standIns := [], harness := (true, "ec7715afe62287f5252169bba7e545d61c74586683eefa925801fda97159b086"), looks := true }, kinds := [], alts := [], laidByText := true, laidKinds := [.data, .data, .data, .data, .sentinel, .sentinel, .data, .pinned], laidTests := true, laidLooks := .later }
def ExplainReadsUptoCardSaid : Prop := Claim7.holds Tryz.pinned (.plain (OpenSpec.upto explainReadsSpec)) explainReadsUptoCard
end Rows
end Go.Proofs.YtgebeiaffjpcaaaGreatDoor
