/-
  DERIVED. GIVEN WITH THE SEED: THE CARDS: each row of YtpeamehplhpcjaaGreatDoorRows.lean that lists a variable, with what it lists TIED to the program's text (the seventh form; the later family's looks); each row that meets fmt, with fmt's text TOLD by the authors' own Lean function (tested against real Go, not proved from fmt's source: count such statements apart). THE CARD IS WHAT COUNTS. Prove the row's statement (the work); the ties are given (YtpeamehplhpcjaaGreatDoorTie.lean); close each card by the builder's one call (the guide's Derived/Test/ToyasCard.lean, 'card_holds'). Laid BY PROGRAM, IN A SANDBOX (cutbox-door.mjs). By AI agents, Wed Nov 11 2026. No macro, syntax, notation, axiom, sorry.
-/
import Derived.Test.YtpeamehplhpcjaaGreatDoorRows
import GoSem.ClaimSeven
namespace Go.Proofs.YtpeamehplhpcjaaGreatDoor
namespace Rows

/-- THE TIED CARD OF 'licitlaw06.SourceReferences'. -/
def sourceReferencesCard : Claim7 := { stood := { row := sourceReferencesRow, standIns := [], harness := (true, "127128720f26008e7e7a18725d71264ac919a9e2c18179c41011839b7561865a"), looks := true }, kinds := [], alts := [], laidByText := true, laidKinds := [.data, .data, .data, .data, .sentinel, .sentinel, .pinned], laidTests := true, laidLooks := .later }
def SourceReferencesCardSaid : Prop := Claim7.holds Tryz.pinned (.plain (OpenSpec.ofChange sourceReferencesSpec)) sourceReferencesCard

/-- THE TIED CARD OF 'licitlaw06.SourceScans'. -/
def sourceScansCard : Claim7 := { stood := { row := sourceScansRow, standIns := [], harness := (true, "127128720f26008e7e7a18725d71264ac919a9e2c18179c41011839b7561865a"), looks := true }, kinds := [], alts := [], laidByText := true, laidKinds := [.data, .data, .data, .data, .sentinel, .sentinel, .pinned], laidTests := true, laidLooks := .later }
def SourceScansCardSaid : Prop := Claim7.holds Tryz.pinned (.plain (OpenSpec.ofChange sourceScansSpec)) sourceScansCard

/-- THE TIED CARD OF 'licitlaw06.SourceFinds'. -/
def sourceFindsCard : Claim7 := { stood := { row := sourceFindsRow, standIns := [], harness := (true, "127128720f26008e7e7a18725d71264ac919a9e2c18179c41011839b7561865a"), looks := true }, kinds := [], alts := [], laidByText := true, laidKinds := [.data, .data, .data, .data, .sentinel, .sentinel, .pinned], laidTests := true, laidLooks := .later }
def SourceFindsCardSaid : Prop := Claim7.holds Tryz.pinned (.plain (OpenSpec.ofChange sourceFindsSpec)) sourceFindsCard

/-- THE TIED CARD OF 'licitlaw06.SourceUnread'. -/
def sourceUnreadCard : Claim7 := { stood := { row := sourceUnreadRow, standIns := [], harness := (true, "127128720f26008e7e7a18725d71264ac919a9e2c18179c41011839b7561865a"), looks := true }, kinds := [], alts := [], laidByText := true, laidKinds := [.data, .data, .data, .data, .sentinel, .sentinel, .pinned], laidTests := true, laidLooks := .later }
def SourceUnreadCardSaid : Prop := Claim7.holds Tryz.pinned (.plain (OpenSpec.ofChange sourceUnreadSpec)) sourceUnreadCard

/-- THE TIED CARD OF 'licitlaw06.SourceRoles'. -/
def sourceRolesCard : Claim7 := { stood := { row := sourceRolesRow, standIns := [], harness := (true, "127128720f26008e7e7a18725d71264ac919a9e2c18179c41011839b7561865a"), looks := true }, kinds := [], alts := [], laidByText := true, laidKinds := [.data, .data, .data, .data, .sentinel, .sentinel, .pinned], laidTests := true, laidLooks := .later }
def SourceRolesCardSaid : Prop := Claim7.holds Tryz.pinned (.plain (OpenSpec.ofChange sourceRolesSpec)) sourceRolesCard

/-- THE TIED CARD OF 'licitlaw06.SourceFlags'. -/
def sourceFlagsCard : Claim7 := { stood := { row := sourceFlagsRow, standIns := [], harness := (true, "127128720f26008e7e7a18725d71264ac919a9e2c18179c41011839b7561865a"), looks := true }, kinds := [], alts := [], laidByText := true, laidKinds := [.data, .data, .data, .data, .sentinel, .sentinel, .pinned], laidTests := true, laidLooks := .later }
def SourceFlagsCardSaid : Prop := Claim7.holds Tryz.pinned (.plain (OpenSpec.ofChange sourceFlagsSpec)) sourceFlagsCard

/-- THE SECOND FORM's CARD OF 'licitlaw06.SourceReferences'. -/
def sourceReferencesUptoCard : Claim7 := { stood := { row := sourceReferencesUptoRow, standIns := [], harness := (true, "127128720f26008e7e7a18725d71264ac919a9e2c18179c41011839b7561865a"), looks := true }, kinds := [], alts := [], laidByText := true, laidKinds := [.data, .data, .data, .data, .sentinel, .sentinel, .pinned], laidTests := true, laidLooks := .later }
def SourceReferencesUptoCardSaid : Prop := Claim7.holds Tryz.pinned (.plain (OpenSpec.upto sourceReferencesSpec)) sourceReferencesUptoCard

/-- THE SECOND FORM's CARD OF 'licitlaw06.SourceScans'. -/
def sourceScansUptoCard : Claim7 := { stood := { row := sourceScansUptoRow, standIns := [], harness := (true, "127128720f26008e7e7a18725d71264ac919a9e2c18179c41011839b7561865a"), looks := true }, kinds := [], alts := [], laidByText := true, laidKinds := [.data, .data, .data, .data, .sentinel, .sentinel, .pinned], laidTests := true, laidLooks := .later }
def SourceScansUptoCardSaid : Prop := Claim7.holds Tryz.pinned (.plain (OpenSpec.upto sourceScansSpec)) sourceScansUptoCard

/-- THE SECOND FORM's CARD OF 'licitlaw06.SourceFinds'. -/
def sourceFindsUptoCard : Claim7 := { stood := { row := sourceFindsUptoRow, standIns := [], harness := (true, "127128720f26008e7e7a18725d71264ac919a9e2c18179c41011839b7561865a"), looks := true }, kinds := [], alts := [], laidByText := true, laidKinds := [.data, .data, .data, .data, .sentinel, .sentinel, .pinned], laidTests := true, laidLooks := .later }
def SourceFindsUptoCardSaid : Prop := Claim7.holds Tryz.pinned (.plain (OpenSpec.upto sourceFindsSpec)) sourceFindsUptoCard

/-- THE SECOND FORM's CARD OF 'licitlaw06.SourceUnread'. -/
def sourceUnreadUptoCard : Claim7 := { stood := { row := sourceUnreadUptoRow, standIns := [], harness := (true, "127128720f26008e7e7a18725d71264ac919a9e2c18179c41011839b7561865a"), looks := true }, kinds := [], alts := [], laidByText := true, laidKinds := [.data, .data, .data, .data, .sentinel, .sentinel, .pinned], laidTests := true, laidLooks := .later }
def SourceUnreadUptoCardSaid : Prop := Claim7.holds Tryz.pinned (.plain (OpenSpec.upto sourceUnreadSpec)) sourceUnreadUptoCard

/-- THE SECOND FORM's CARD OF 'licitlaw06.SourceRoles'. -/
def sourceRolesUptoCard : Claim7 := { stood := { row := sourceRolesUptoRow, standIns := [], harness := (true, "127128720f26008e7e7a18725d71264ac919a9e2c18179c41011839b7561865a"), looks := true }, kinds := [], alts := [], laidByText := true, laidKinds := [.data, .data, .data, .data, .sentinel, .sentinel, .pinned], laidTests := true, laidLooks := .later }
def SourceRolesUptoCardSaid : Prop := Claim7.holds Tryz.pinned (.plain (OpenSpec.upto sourceRolesSpec)) sourceRolesUptoCard

/-- THE SECOND FORM's CARD OF 'licitlaw06.SourceFlags'. -/
def sourceFlagsUptoCard : Claim7 := { stood := { row := sourceFlagsUptoRow, standIns := [], harness := (true, "127128720f26008e7e7a18725d71264ac919a9e2c18179c41011839b7561865a"), looks := true }, kinds := [], alts := [], laidByText := true, laidKinds := [.data, .data, .data, .data, .sentinel, .sentinel, .pinned], laidTests := true, laidLooks := .later }
def SourceFlagsUptoCardSaid : Prop := Claim7.holds Tryz.pinned (.plain (OpenSpec.upto sourceFlagsSpec)) sourceFlagsUptoCard
end Rows
end Go.Proofs.YtpeamehplhpcjaaGreatDoor
