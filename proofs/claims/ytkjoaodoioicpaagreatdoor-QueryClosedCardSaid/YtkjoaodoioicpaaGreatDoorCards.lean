/-
  DERIVED. GIVEN WITH THE SEED: THE CARDS: each row of YtkjoaodoioicpaaGreatDoorRows.lean that lists a variable, with what it lists TIED to the program's text (the seventh form; the later family's looks); each row that meets fmt, with fmt's text TOLD by the authors' own Lean function (tested against real Go, not proved from fmt's source: count such statements apart). THE CARD IS WHAT COUNTS. Prove the row's statement (the work); the ties are given (YtkjoaodoioicpaaGreatDoorTie.lean); close each card by the builder's one call (the guide's Derived/Test/ToyasCard.lean, 'card_holds'). Laid BY PROGRAM, IN A SANDBOX (cutbox-door.mjs). By AI agents, Wed Nov 11 2026. No macro, syntax, notation, axiom, sorry.
-/
import Derived.Test.YtkjoaodoioicpaaGreatDoorRows
import GoSem.ClaimSeven
namespace Go.Proofs.YtkjoaodoioicpaaGreatDoor
namespace Rows

/-- THE TIED CARD OF 'licitlaw54.QueryAnyOrder'. -/
def queryAnyOrderCard : Claim7 := { stood := { row := queryAnyOrderRow, standIns := [], harness := (true, "69511a750a4eeecbd748de443bed325332509500c2795875913ece9437a72a90"), looks := true }, kinds := [], alts := [], laidByText := true, laidKinds := [.data, .data, .data, .listed, .data], laidTests := true, laidLooks := .later }
def QueryAnyOrderCardSaid : Prop := Claim7.holds Tryz.pinned (.plain (OpenSpec.ofChange queryAnyOrderSpec)) queryAnyOrderCard

/-- THE TIED CARD OF 'licitlaw54.QueryGrows'. -/
def queryGrowsCard : Claim7 := { stood := { row := queryGrowsRow, standIns := [], harness := (true, "69511a750a4eeecbd748de443bed325332509500c2795875913ece9437a72a90"), looks := true }, kinds := [], alts := [], laidByText := true, laidKinds := [.data, .data, .data, .listed, .data], laidTests := true, laidLooks := .later }
def QueryGrowsCardSaid : Prop := Claim7.holds Tryz.pinned (.plain (OpenSpec.ofChange queryGrowsSpec)) queryGrowsCard

/-- THE TIED CARD OF 'licitlaw54.QueryLimits'. -/
def queryLimitsCard : Claim7 := { stood := { row := queryLimitsRow, standIns := [], harness := (true, "69511a750a4eeecbd748de443bed325332509500c2795875913ece9437a72a90"), looks := true }, kinds := [], alts := [], laidByText := true, laidKinds := [.data, .data, .data, .listed, .data], laidTests := true, laidLooks := .later }
def QueryLimitsCardSaid : Prop := Claim7.holds Tryz.pinned (.plain (OpenSpec.ofChange queryLimitsSpec)) queryLimitsCard

/-- THE TIED CARD OF 'licitlaw54.QueryClosed'. -/
def queryClosedCard : Claim7 := { stood := { row := queryClosedRow, standIns := [], harness := (true, "69511a750a4eeecbd748de443bed325332509500c2795875913ece9437a72a90"), looks := true }, kinds := [], alts := [], laidByText := true, laidKinds := [.data, .data, .data, .listed, .data], laidTests := true, laidLooks := .later }
def QueryClosedCardSaid : Prop := Claim7.holds Tryz.pinned (.plain (OpenSpec.ofChange queryClosedSpec)) queryClosedCard

/-- THE SECOND FORM's CARD OF 'licitlaw54.QueryAnyOrder'. -/
def queryAnyOrderUptoCard : Claim7 := { stood := { row := queryAnyOrderUptoRow, standIns := [], harness := (true, "69511a750a4eeecbd748de443bed325332509500c2795875913ece9437a72a90"), looks := true }, kinds := [], alts := [], laidByText := true, laidKinds := [.data, .data, .data, .listed, .data], laidTests := true, laidLooks := .later }
def QueryAnyOrderUptoCardSaid : Prop := Claim7.holds Tryz.pinned (.plain (OpenSpec.upto queryAnyOrderSpec)) queryAnyOrderUptoCard

/-- THE SECOND FORM's CARD OF 'licitlaw54.QueryGrows'. -/
def queryGrowsUptoCard : Claim7 := { stood := { row := queryGrowsUptoRow, standIns := [], harness := (true, "69511a750a4eeecbd748de443bed325332509500c2795875913ece9437a72a90"), looks := true }, kinds := [], alts := [], laidByText := true, laidKinds := [.data, .data, .data, .listed, .data], laidTests := true, laidLooks := .later }
def QueryGrowsUptoCardSaid : Prop := Claim7.holds Tryz.pinned (.plain (OpenSpec.upto queryGrowsSpec)) queryGrowsUptoCard

/-- THE SECOND FORM's CARD OF 'licitlaw54.QueryLimits'. -/
def queryLimitsUptoCard : Claim7 := { stood := { row := queryLimitsUptoRow, standIns := [], harness := (true, "69511a750a4eeecbd748de443bed325332509500c2795875913ece9437a72a90"), looks := true }, kinds := [], alts := [], laidByText := true, laidKinds := [.data, .data, .data, .listed, .data], laidTests := true, laidLooks := .later }
def QueryLimitsUptoCardSaid : Prop := Claim7.holds Tryz.pinned (.plain (OpenSpec.upto queryLimitsSpec)) queryLimitsUptoCard

/-- THE SECOND FORM's CARD OF 'licitlaw54.QueryClosed'. -/
def queryClosedUptoCard : Claim7 := { stood := { row := queryClosedUptoRow, standIns := [], harness := (true, "69511a750a4eeecbd748de443bed325332509500c2795875913ece9437a72a90"), looks := true }, kinds := [], alts := [], laidByText := true, laidKinds := [.data, .data, .data, .listed, .data], laidTests := true, laidLooks := .later }
def QueryClosedUptoCardSaid : Prop := Claim7.holds Tryz.pinned (.plain (OpenSpec.upto queryClosedSpec)) queryClosedUptoCard
end Rows
end Go.Proofs.YtkjoaodoioicpaaGreatDoor
