/-
  DERIVED. GIVEN WITH THE SEED: THE CARDS: each row of YtnhpkefjmpgneaaDoorRows.lean that lists a variable, with what it lists TIED to the program's text (the seventh form; the later family's looks); each row that meets fmt, with fmt's text TOLD by the authors' own Lean function (tested against real Go, not proved from fmt's source: count such statements apart). THE CARD IS WHAT COUNTS. Prove the row's statement (the work); the ties are given (YtnhpkefjmpgneaaDoorTie.lean); close each card by the builder's one call (the guide's Derived/Test/ToyasCard.lean, 'card_holds'). Laid BY PROGRAM, IN A SANDBOX (cutbox-door.mjs). By AI agents, Wed Nov 11 2026. No macro, syntax, notation, axiom, sorry.
-/
import Derived.Test.YtnhpkefjmpgneaaDoorRows
import GoSem.ClaimSeven
namespace Go.Proofs.YtnhpkefjmpgneaaDoor
namespace Rows

/-- THE TIED CARD OF 'hallmootlaw09.StateApart'. -/
def stateApartCard : Claim7 := { stood := { row := stateApartRow, standIns := [], harness := (true, "f5dbd4a5ff87ec9889177384aa81ada91a884bce331019386c5e57820e890c77"), looks := true }, kinds := [], alts := [], laidByText := true, laidKinds := [.data, .pinned], laidTests := true, laidLooks := .later }
def StateApartCardSaid : Prop := Claim7.holds Tryd.pinned (.plain (OpenSpec.ofChange stateApartSpec)) stateApartCard

/-- THE TIED CARD OF 'hallmootlaw09.StateKeeps'. -/
def stateKeepsCard : Claim7 := { stood := { row := stateKeepsRow, standIns := [], harness := (true, "f5dbd4a5ff87ec9889177384aa81ada91a884bce331019386c5e57820e890c77"), looks := true }, kinds := [], alts := [], laidByText := true, laidKinds := [.data, .pinned], laidTests := true, laidLooks := .later }
def StateKeepsCardSaid : Prop := Claim7.holds Tryd.pinned (.plain (OpenSpec.ofChange stateKeepsSpec)) stateKeepsCard

/-- THE TIED CARD OF 'hallmootlaw26.ScriptJoins'. -/
def scriptJoinsCard : Claim7 := { stood := { row := scriptJoinsRow, standIns := [], harness := (true, "f5dbd4a5ff87ec9889177384aa81ada91a884bce331019386c5e57820e890c77"), looks := true }, kinds := [], alts := [], laidByText := true, laidKinds := [.data, .pinned], laidTests := true, laidLooks := .later }
def ScriptJoinsCardSaid : Prop := Claim7.holds Tryd.pinned (.plain (OpenSpec.ofChange scriptJoinsSpec)) scriptJoinsCard

/-- THE TIED CARD OF 'hallmootlaw09.StateDoes'. -/
def stateDoesCard : Claim7 := { stood := { row := stateDoesRow, standIns := [], harness := (true, "f5dbd4a5ff87ec9889177384aa81ada91a884bce331019386c5e57820e890c77"), looks := true }, kinds := [], alts := [], laidByText := true, laidKinds := [.data, .pinned], laidTests := true, laidLooks := .later }
def StateDoesCardSaid : Prop := Claim7.holds Tryd.pinned (.plain (OpenSpec.ofChange stateDoesSpec)) stateDoesCard

/-- THE TIED CARD OF 'hallmootlaw09.StateNil'. -/
def stateNilCard : Claim7 := { stood := { row := stateNilRow, standIns := [], harness := (true, "f5dbd4a5ff87ec9889177384aa81ada91a884bce331019386c5e57820e890c77"), looks := true }, kinds := [], alts := [], laidByText := true, laidKinds := [.data, .pinned], laidTests := true, laidLooks := .later }
def StateNilCardSaid : Prop := Claim7.holds Tryd.pinned (.plain (OpenSpec.ofChange stateNilSpec)) stateNilCard

/-- THE TIED CARD OF 'hallmootlaw20.LedgerFolds'. -/
def ledgerFoldsCard : Claim7 := { stood := { row := ledgerFoldsRow, standIns := [], harness := (true, "f5dbd4a5ff87ec9889177384aa81ada91a884bce331019386c5e57820e890c77"), looks := true }, kinds := [], alts := [], laidByText := true, laidKinds := [.data, .pinned], laidTests := true, laidLooks := .later }
def LedgerFoldsCardSaid : Prop := Claim7.holds Tryd.pinned (.plain (OpenSpec.ofChange ledgerFoldsSpec)) ledgerFoldsCard

/-- THE SECOND FORM's CARD OF 'hallmootlaw09.StateApart'. -/
def stateApartUptoCard : Claim7 := { stood := { row := stateApartUptoRow, standIns := [], harness := (true, "f5dbd4a5ff87ec9889177384aa81ada91a884bce331019386c5e57820e890c77"), looks := true }, kinds := [], alts := [], laidByText := true, laidKinds := [.data, .pinned], laidTests := true, laidLooks := .later }
def StateApartUptoCardSaid : Prop := Claim7.holds Tryd.pinned (.plain (OpenSpec.upto stateApartSpec)) stateApartUptoCard

/-- THE SECOND FORM's CARD OF 'hallmootlaw09.StateKeeps'. -/
def stateKeepsUptoCard : Claim7 := { stood := { row := stateKeepsUptoRow, standIns := [], harness := (true, "f5dbd4a5ff87ec9889177384aa81ada91a884bce331019386c5e57820e890c77"), looks := true }, kinds := [], alts := [], laidByText := true, laidKinds := [.data, .pinned], laidTests := true, laidLooks := .later }
def StateKeepsUptoCardSaid : Prop := Claim7.holds Tryd.pinned (.plain (OpenSpec.upto stateKeepsSpec)) stateKeepsUptoCard

/-- THE SECOND FORM's CARD OF 'hallmootlaw26.ScriptJoins'. -/
def scriptJoinsUptoCard : Claim7 := { stood := { row := scriptJoinsUptoRow, standIns := [], harness := (true, "f5dbd4a5ff87ec9889177384aa81ada91a884bce331019386c5e57820e890c77"), looks := true }, kinds := [], alts := [], laidByText := true, laidKinds := [.data, .pinned], laidTests := true, laidLooks := .later }
def ScriptJoinsUptoCardSaid : Prop := Claim7.holds Tryd.pinned (.plain (OpenSpec.upto scriptJoinsSpec)) scriptJoinsUptoCard

/-- THE SECOND FORM's CARD OF 'hallmootlaw09.StateDoes'. -/
def stateDoesUptoCard : Claim7 := { stood := { row := stateDoesUptoRow, standIns := [], harness := (true, "f5dbd4a5ff87ec9889177384aa81ada91a884bce331019386c5e57820e890c77"), looks := true }, kinds := [], alts := [], laidByText := true, laidKinds := [.data, .pinned], laidTests := true, laidLooks := .later }
def StateDoesUptoCardSaid : Prop := Claim7.holds Tryd.pinned (.plain (OpenSpec.upto stateDoesSpec)) stateDoesUptoCard

/-- THE SECOND FORM's CARD OF 'hallmootlaw09.StateNil'. -/
def stateNilUptoCard : Claim7 := { stood := { row := stateNilUptoRow, standIns := [], harness := (true, "f5dbd4a5ff87ec9889177384aa81ada91a884bce331019386c5e57820e890c77"), looks := true }, kinds := [], alts := [], laidByText := true, laidKinds := [.data, .pinned], laidTests := true, laidLooks := .later }
def StateNilUptoCardSaid : Prop := Claim7.holds Tryd.pinned (.plain (OpenSpec.upto stateNilSpec)) stateNilUptoCard

/-- THE SECOND FORM's CARD OF 'hallmootlaw20.LedgerFolds'. -/
def ledgerFoldsUptoCard : Claim7 := { stood := { row := ledgerFoldsUptoRow, standIns := [], harness := (true, "f5dbd4a5ff87ec9889177384aa81ada91a884bce331019386c5e57820e890c77"), looks := true }, kinds := [], alts := [], laidByText := true, laidKinds := [.data, .pinned], laidTests := true, laidLooks := .later }
def LedgerFoldsUptoCardSaid : Prop := Claim7.holds Tryd.pinned (.plain (OpenSpec.upto ledgerFoldsSpec)) ledgerFoldsUptoCard
end Rows
end Go.Proofs.YtnhpkefjmpgneaaDoor
