/-
  DERIVED. GIVEN WITH THE SEED: THE CARDS: each row of YtjopmgoacncmgaaGreatDoorRows.lean that lists a variable, with what it lists TIED to the program's text (the seventh form; the later family's looks); each row that meets fmt, with fmt's text TOLD by the authors' own Lean function (tested against real Go, not proved from fmt's source: count such statements apart). THE CARD IS WHAT COUNTS. Prove the row's statement (the work); the ties are given (YtjopmgoacncmgaaGreatDoorTie.lean); close each card by the builder's one call (the guide's Derived/Test/ToyasCard.lean, 'card_holds'). Laid BY PROGRAM, IN A SANDBOX (cutbox-door.mjs). By AI agents, Wed Nov 11 2026. No macro, syntax, notation, axiom, sorry.
-/
import Derived.Test.YtjopmgoacncmgaaGreatDoorRows
import GoSem.ClaimSeven
namespace Go.Proofs.YtjopmgoacncmgaaGreatDoor
namespace Rows

/-- THE TIED CARD OF 'licitlaw53.RulesParse'. -/
def rulesParseCard : Claim7 := { stood := { row := rulesParseRow, standIns := [], harness := (true, "6ad37a8388ed808d2ae393586e3afdc8a6999f3c52d2c431262601ebe9f4163c"), looks := true }, kinds := [], alts := [], laidByText := true, laidKinds := [.data, .data, .data, .data, .sentinel, .sentinel, .listed, .data, .pinned], laidTests := true, laidLooks := .later }
def RulesParseCardSaid : Prop := Claim7.holds Tryz.pinned (.plain (OpenSpec.ofChange rulesParseSpec)) rulesParseCard

/-- THE TIED CARD OF 'licitlaw53.RulesLong'. -/
def rulesLongCard : Claim7 := { stood := { row := rulesLongRow, standIns := [], harness := (true, "6ad37a8388ed808d2ae393586e3afdc8a6999f3c52d2c431262601ebe9f4163c"), looks := true }, kinds := [], alts := [], laidByText := true, laidKinds := [.data, .data, .data, .data, .sentinel, .sentinel, .listed, .data, .pinned], laidTests := true, laidLooks := .later }
def RulesLongCardSaid : Prop := Claim7.holds Tryz.pinned (.plain (OpenSpec.ofChange rulesLongSpec)) rulesLongCard

/-- THE TIED CARD OF 'licitlaw53.RulesPrint'. -/
def rulesPrintCard : Claim7 := { stood := { row := rulesPrintRow, standIns := [], harness := (true, "6ad37a8388ed808d2ae393586e3afdc8a6999f3c52d2c431262601ebe9f4163c"), looks := true }, kinds := [], alts := [], laidByText := true, laidKinds := [.data, .data, .data, .data, .sentinel, .sentinel, .listed, .data, .pinned], laidTests := true, laidLooks := .later }
def RulesPrintCardSaid : Prop := Claim7.holds Tryz.pinned (.plain (OpenSpec.ofChange rulesPrintSpec)) rulesPrintCard

/-- THE TIED CARD OF 'licitlaw53.RulesCheck'. -/
def rulesCheckCard : Claim7 := { stood := { row := rulesCheckRow, standIns := [], harness := (true, "6ad37a8388ed808d2ae393586e3afdc8a6999f3c52d2c431262601ebe9f4163c"), looks := true }, kinds := [], alts := [], laidByText := true, laidKinds := [.data, .data, .data, .data, .sentinel, .sentinel, .listed, .data, .pinned], laidTests := true, laidLooks := .later }
def RulesCheckCardSaid : Prop := Claim7.holds Tryz.pinned (.plain (OpenSpec.ofChange rulesCheckSpec)) rulesCheckCard

/-- THE TIED CARD OF 'licitlaw53.RulesStrata'. -/
def rulesStrataCard : Claim7 := { stood := { row := rulesStrataRow, standIns := [], harness := (true, "6ad37a8388ed808d2ae393586e3afdc8a6999f3c52d2c431262601ebe9f4163c"), looks := true }, kinds := [], alts := [], laidByText := true, laidKinds := [.data, .data, .data, .data, .sentinel, .sentinel, .listed, .data, .pinned], laidTests := true, laidLooks := .later }
def RulesStrataCardSaid : Prop := Claim7.holds Tryz.pinned (.plain (OpenSpec.ofChange rulesStrataSpec)) rulesStrataCard

/-- THE TIED CARD OF 'licitlaw53.RulesVariables'. -/
def rulesVariablesCard : Claim7 := { stood := { row := rulesVariablesRow, standIns := [], harness := (true, "6ad37a8388ed808d2ae393586e3afdc8a6999f3c52d2c431262601ebe9f4163c"), looks := true }, kinds := [], alts := [], laidByText := true, laidKinds := [.data, .data, .data, .data, .sentinel, .sentinel, .listed, .data, .pinned], laidTests := true, laidLooks := .later }
def RulesVariablesCardSaid : Prop := Claim7.holds Tryz.pinned (.plain (OpenSpec.ofChange rulesVariablesSpec)) rulesVariablesCard

/-- THE TIED CARD OF 'licitlaw53.RulesLayered'. -/
def rulesLayeredCard : Claim7 := { stood := { row := rulesLayeredRow, standIns := [], harness := (true, "6ad37a8388ed808d2ae393586e3afdc8a6999f3c52d2c431262601ebe9f4163c"), looks := true }, kinds := [], alts := [], laidByText := true, laidKinds := [.data, .data, .data, .data, .sentinel, .sentinel, .listed, .data, .pinned], laidTests := true, laidLooks := .later }
def RulesLayeredCardSaid : Prop := Claim7.holds Tryz.pinned (.plain (OpenSpec.ofChange rulesLayeredSpec)) rulesLayeredCard

/-- THE TIED CARD OF 'licitlaw53.RulesAtoms'. -/
def rulesAtomsCard : Claim7 := { stood := { row := rulesAtomsRow, standIns := [], harness := (true, "6ad37a8388ed808d2ae393586e3afdc8a6999f3c52d2c431262601ebe9f4163c"), looks := true }, kinds := [], alts := [], laidByText := true, laidKinds := [.data, .data, .data, .data, .sentinel, .sentinel, .listed, .data, .pinned], laidTests := true, laidLooks := .later }
def RulesAtomsCardSaid : Prop := Claim7.holds Tryz.pinned (.plain (OpenSpec.ofChange rulesAtomsSpec)) rulesAtomsCard

/-- THE TIED CARD OF 'licitlaw53.RulesOrder'. -/
def rulesOrderCard : Claim7 := { stood := { row := rulesOrderRow, standIns := [], harness := (true, "6ad37a8388ed808d2ae393586e3afdc8a6999f3c52d2c431262601ebe9f4163c"), looks := true }, kinds := [], alts := [], laidByText := true, laidKinds := [.data, .data, .data, .data, .sentinel, .sentinel, .listed, .data, .pinned], laidTests := true, laidLooks := .later }
def RulesOrderCardSaid : Prop := Claim7.holds Tryz.pinned (.plain (OpenSpec.ofChange rulesOrderSpec)) rulesOrderCard

/-- THE SECOND FORM's CARD OF 'licitlaw53.RulesParse'. -/
def rulesParseUptoCard : Claim7 := { stood := { row := rulesParseUptoRow, standIns := [], harness := (true, "6ad37a8388ed808d2ae393586e3afdc8a6999f3c52d2c431262601ebe9f4163c"), looks := true }, kinds := [], alts := [], laidByText := true, laidKinds := [.data, .data, .data, .data, .sentinel, .sentinel, .listed, .data, .pinned], laidTests := true, laidLooks := .later }
def RulesParseUptoCardSaid : Prop := Claim7.holds Tryz.pinned (.plain (OpenSpec.upto rulesParseSpec)) rulesParseUptoCard

/-- THE SECOND FORM's CARD OF 'licitlaw53.RulesLong'. -/
def rulesLongUptoCard : Claim7 := { stood := { row := rulesLongUptoRow, standIns := [], harness := (true, "6ad37a8388ed808d2ae393586e3afdc8a6999f3c52d2c431262601ebe9f4163c"), looks := true }, kinds := [], alts := [], laidByText := true, laidKinds := [.data, .data, .data, .data, .sentinel, .sentinel, .listed, .data, .pinned], laidTests := true, laidLooks := .later }
def RulesLongUptoCardSaid : Prop := Claim7.holds Tryz.pinned (.plain (OpenSpec.upto rulesLongSpec)) rulesLongUptoCard

/-- THE SECOND FORM's CARD OF 'licitlaw53.RulesPrint'. -/
def rulesPrintUptoCard : Claim7 := { stood := { row := rulesPrintUptoRow, standIns := [], harness := (true, "6ad37a8388ed808d2ae393586e3afdc8a6999f3c52d2c431262601ebe9f4163c"), looks := true }, kinds := [], alts := [], laidByText := true, laidKinds := [.data, .data, .data, .data, .sentinel, .sentinel, .listed, .data, .pinned], laidTests := true, laidLooks := .later }
def RulesPrintUptoCardSaid : Prop := Claim7.holds Tryz.pinned (.plain (OpenSpec.upto rulesPrintSpec)) rulesPrintUptoCard

/-- THE SECOND FORM's CARD OF 'licitlaw53.RulesCheck'. -/
def rulesCheckUptoCard : Claim7 := { stood := { row := rulesCheckUptoRow, standIns := [], harness := (true, "6ad37a8388ed808d2ae393586e3afdc8a6999f3c52d2c431262601ebe9f4163c"), looks := true }, kinds := [], alts := [], laidByText := true, laidKinds := [.data, .data, .data, .data, .sentinel, .sentinel, .listed, .data, .pinned], laidTests := true, laidLooks := .later }
def RulesCheckUptoCardSaid : Prop := Claim7.holds Tryz.pinned (.plain (OpenSpec.upto rulesCheckSpec)) rulesCheckUptoCard

/-- THE SECOND FORM's CARD OF 'licitlaw53.RulesStrata'. -/
def rulesStrataUptoCard : Claim7 := { stood := { row := rulesStrataUptoRow, standIns := [], harness := (true, "6ad37a8388ed808d2ae393586e3afdc8a6999f3c52d2c431262601ebe9f4163c"), looks := true }, kinds := [], alts := [], laidByText := true, laidKinds := [.data, .data, .data, .data, .sentinel, .sentinel, .listed, .data, .pinned], laidTests := true, laidLooks := .later }
def RulesStrataUptoCardSaid : Prop := Claim7.holds Tryz.pinned (.plain (OpenSpec.upto rulesStrataSpec)) rulesStrataUptoCard

/-- THE SECOND FORM's CARD OF 'licitlaw53.RulesVariables'. -/
def rulesVariablesUptoCard : Claim7 := { stood := { row := rulesVariablesUptoRow, standIns := [], harness := (true, "6ad37a8388ed808d2ae393586e3afdc8a6999f3c52d2c431262601ebe9f4163c"), looks := true }, kinds := [], alts := [], laidByText := true, laidKinds := [.data, .data, .data, .data, .sentinel, .sentinel, .listed, .data, .pinned], laidTests := true, laidLooks := .later }
def RulesVariablesUptoCardSaid : Prop := Claim7.holds Tryz.pinned (.plain (OpenSpec.upto rulesVariablesSpec)) rulesVariablesUptoCard

/-- THE SECOND FORM's CARD OF 'licitlaw53.RulesLayered'. -/
def rulesLayeredUptoCard : Claim7 := { stood := { row := rulesLayeredUptoRow, standIns := [], harness := (true, "6ad37a8388ed808d2ae393586e3afdc8a6999f3c52d2c431262601ebe9f4163c"), looks := true }, kinds := [], alts := [], laidByText := true, laidKinds := [.data, .data, .data, .data, .sentinel, .sentinel, .listed, .data, .pinned], laidTests := true, laidLooks := .later }
def RulesLayeredUptoCardSaid : Prop := Claim7.holds Tryz.pinned (.plain (OpenSpec.upto rulesLayeredSpec)) rulesLayeredUptoCard

/-- THE SECOND FORM's CARD OF 'licitlaw53.RulesAtoms'. -/
def rulesAtomsUptoCard : Claim7 := { stood := { row := rulesAtomsUptoRow, standIns := [], harness := (true, "6ad37a8388ed808d2ae393586e3afdc8a6999f3c52d2c431262601ebe9f4163c"), looks := true }, kinds := [], alts := [], laidByText := true, laidKinds := [.data, .data, .data, .data, .sentinel, .sentinel, .listed, .data, .pinned], laidTests := true, laidLooks := .later }
def RulesAtomsUptoCardSaid : Prop := Claim7.holds Tryz.pinned (.plain (OpenSpec.upto rulesAtomsSpec)) rulesAtomsUptoCard

/-- THE SECOND FORM's CARD OF 'licitlaw53.RulesOrder'. -/
def rulesOrderUptoCard : Claim7 := { stood := { row := rulesOrderUptoRow, standIns := [], harness := (true, "6ad37a8388ed808d2ae393586e3afdc8a6999f3c52d2c431262601ebe9f4163c"), looks := true }, kinds := [], alts := [], laidByText := true, laidKinds := [.data, .data, .data, .data, .sentinel, .sentinel, .listed, .data, .pinned], laidTests := true, laidLooks := .later }
def RulesOrderUptoCardSaid : Prop := Claim7.holds Tryz.pinned (.plain (OpenSpec.upto rulesOrderSpec)) rulesOrderUptoCard
end Rows
end Go.Proofs.YtjopmgoacncmgaaGreatDoor
