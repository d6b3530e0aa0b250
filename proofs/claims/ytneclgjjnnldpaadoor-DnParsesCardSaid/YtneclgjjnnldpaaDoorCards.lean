/-
  DERIVED. GIVEN WITH THE SEED: THE CARDS: each row of YtneclgjjnnldpaaDoorRows.lean that lists a variable, with what it lists TIED to the program's text (the seventh form; the later family's looks); each row that meets fmt, with fmt's text TOLD by the authors' own Lean function (tested against real Go, not proved from fmt's source: count such statements apart). THE CARD IS WHAT COUNTS. Prove the row's statement (the work); the ties are given (YtneclgjjnnldpaaDoorTie.lean); close each card by the builder's one call (the guide's Derived/Test/ToyasCard.lean, 'card_holds'). Laid BY PROGRAM, IN A SANDBOX (cutbox-door.mjs). By AI agents, Wed Nov 11 2026. No macro, syntax, notation, axiom, sorry.
-/
import Derived.Test.YtneclgjjnnldpaaDoorRows
import GoSem.ClaimSeven
namespace Go.Proofs.YtneclgjjnnldpaaDoor
namespace Rows

/-- THE TIED CARD OF 'chancerylaw4.DnJoined'. -/
def dnJoinedCard : Claim7 := { stood := { row := dnJoinedRow, standIns := [], harness := (true, "306b6ebffccb292e642b4236858b6703dba843d86aad4a9f6cc3880d20a04555"), looks := true }, kinds := [], alts := [], laidByText := true, laidKinds := [.data, .pinned], laidTests := true, laidLooks := .later }
def DnJoinedCardSaid : Prop := Claim7.holds Tryd.pinned (.plain (OpenSpec.ofChange dnJoinedSpec)) dnJoinedCard

/-- THE TIED CARD OF 'chancerylaw4.DnBack'. -/
def dnBackCard : Claim7 := { stood := { row := dnBackRow, standIns := [], harness := (true, "306b6ebffccb292e642b4236858b6703dba843d86aad4a9f6cc3880d20a04555"), looks := true }, kinds := [], alts := [], laidByText := true, laidKinds := [.data, .pinned], laidTests := true, laidLooks := .later }
def DnBackCardSaid : Prop := Claim7.holds Tryd.pinned (.plain (OpenSpec.ofChange dnBackSpec)) dnBackCard

/-- THE TIED CARD OF 'chancerylaw4.DnEscapes'. -/
def dnEscapesCard : Claim7 := { stood := { row := dnEscapesRow, standIns := [], harness := (true, "306b6ebffccb292e642b4236858b6703dba843d86aad4a9f6cc3880d20a04555"), looks := true }, kinds := [], alts := [], laidByText := true, laidKinds := [.data, .pinned], laidTests := true, laidLooks := .later }
def DnEscapesCardSaid : Prop := Claim7.holds Tryd.pinned (.plain (OpenSpec.ofChange dnEscapesSpec)) dnEscapesCard

/-- THE TIED CARD OF 'chancerylaw4.DnBlanks'. -/
def dnBlanksCard : Claim7 := { stood := { row := dnBlanksRow, standIns := [], harness := (true, "306b6ebffccb292e642b4236858b6703dba843d86aad4a9f6cc3880d20a04555"), looks := true }, kinds := [], alts := [], laidByText := true, laidKinds := [.data, .pinned], laidTests := true, laidLooks := .later }
def DnBlanksCardSaid : Prop := Claim7.holds Tryd.pinned (.plain (OpenSpec.ofChange dnBlanksSpec)) dnBlanksCard

/-- THE TIED CARD OF 'chancerylaw4.DnParses'. -/
def dnParsesCard : Claim7 := { stood := { row := dnParsesRow, standIns := [], harness := (true, "306b6ebffccb292e642b4236858b6703dba843d86aad4a9f6cc3880d20a04555"), looks := true }, kinds := [], alts := [], laidByText := true, laidKinds := [.data, .pinned], laidTests := true, laidLooks := .later }
def DnParsesCardSaid : Prop := Claim7.holds Tryd.pinned (.plain (OpenSpec.ofChange dnParsesSpec)) dnParsesCard

/-- THE SECOND FORM's CARD OF 'chancerylaw4.DnJoined'. -/
def dnJoinedUptoCard : Claim7 := { stood := { row := dnJoinedUptoRow, standIns := [], harness := (true, "306b6ebffccb292e642b4236858b6703dba843d86aad4a9f6cc3880d20a04555"), looks := true }, kinds := [], alts := [], laidByText := true, laidKinds := [.data, .pinned], laidTests := true, laidLooks := .later }
def DnJoinedUptoCardSaid : Prop := Claim7.holds Tryd.pinned (.plain (OpenSpec.upto dnJoinedSpec)) dnJoinedUptoCard

/-- THE SECOND FORM's CARD OF 'chancerylaw4.DnBack'. -/
def dnBackUptoCard : Claim7 := { stood := { row := dnBackUptoRow, standIns := [], harness := (true, "306b6ebffccb292e642b4236858b6703dba843d86aad4a9f6cc3880d20a04555"), looks := true }, kinds := [], alts := [], laidByText := true, laidKinds := [.data, .pinned], laidTests := true, laidLooks := .later }
def DnBackUptoCardSaid : Prop := Claim7.holds Tryd.pinned (.plain (OpenSpec.upto dnBackSpec)) dnBackUptoCard

/-- THE SECOND FORM's CARD OF 'chancerylaw4.DnEscapes'. -/
def dnEscapesUptoCard : Claim7 := { stood := { row := dnEscapesUptoRow, standIns := [], harness := (true, "306b6ebffccb292e642b4236858b6703dba843d86aad4a9f6cc3880d20a04555"), looks := true }, kinds := [], alts := [], laidByText := true, laidKinds := [.data, .pinned], laidTests := true, laidLooks := .later }
def DnEscapesUptoCardSaid : Prop := Claim7.holds Tryd.pinned (.plain (OpenSpec.upto dnEscapesSpec)) dnEscapesUptoCard

/-- THE SECOND FORM's CARD OF 'chancerylaw4.DnBlanks'. -/
def dnBlanksUptoCard : Claim7 := { stood := { row := dnBlanksUptoRow, standIns := [], harness := (true, "306b6ebffccb292e642b4236858b6703dba843d86aad4a9f6cc3880d20a04555"), looks := true }, kinds := [], alts := [], laidByText := true, laidKinds := [.data, .pinned], laidTests := true, laidLooks := .later }
def DnBlanksUptoCardSaid : Prop := Claim7.holds Tryd.pinned (.plain (OpenSpec.upto dnBlanksSpec)) dnBlanksUptoCard

/-- THE SECOND FORM's CARD OF 'chancerylaw4.DnParses'. -/
def dnParsesUptoCard : Claim7 := { stood := { row := dnParsesUptoRow, standIns := [], harness := (true, "306b6ebffccb292e642b4236858b6703dba843d86aad4a9f6cc3880d20a04555"), looks := true }, kinds := [], alts := [], laidByText := true, laidKinds := [.data, .pinned], laidTests := true, laidLooks := .later }
def DnParsesUptoCardSaid : Prop := Claim7.holds Tryd.pinned (.plain (OpenSpec.upto dnParsesSpec)) dnParsesUptoCard
end Rows
end Go.Proofs.YtneclgjjnnldpaaDoor
