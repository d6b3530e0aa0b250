/-
  DERIVED. GIVEN WITH THE SEED: THE CARDS: each row of YtdfdponenhfbjaaDoorRows.lean that lists a variable, with what it lists TIED to the program's text (the seventh form; the later family's looks); each row that meets fmt, with fmt's text TOLD by the authors' own Lean function (tested against real Go, not proved from fmt's source: count such statements apart). THE CARD IS WHAT COUNTS. Prove the row's statement (the work); the ties are given (YtdfdponenhfbjaaDoorTie.lean); close each card by the builder's one call (the guide's Derived/Test/ToyasCard.lean, 'card_holds'). Laid BY PROGRAM, IN A SANDBOX (cutbox-door.mjs). By AI agents, Wed Nov 11 2026. No macro, syntax, notation, axiom, sorry.
-/
import Derived.Test.YtdfdponenhfbjaaDoorRows
import GoSem.ClaimSeven
namespace Go.Proofs.YtdfdponenhfbjaaDoor
namespace Rows

/-- THE TIED CARD OF 'chancerylaw3.PrepMaps'. -/
def prepMapsCard : Claim7 := { stood := { row := prepMapsRow, standIns := [], harness := (true, "0d56377337ef8d9928012e61b75de17a03f7bf257d5e92211d2c6b54fb7dd9af"), looks := false }, kinds := [], alts := [], laidByText := true, laidKinds := [.data, .pinned], laidTests := true, laidLooks := .later }
def PrepMapsCardSaid : Prop := Claim7.holds Tryd.pinned (.plain (OpenSpec.ofChange prepMapsSpec)) prepMapsCard

/-- THE TIED CARD OF 'chancerylaw3.PrepTexts'. -/
def prepTextsCard : Claim7 := { stood := { row := prepTextsRow, standIns := [], harness := (true, "0d56377337ef8d9928012e61b75de17a03f7bf257d5e92211d2c6b54fb7dd9af"), looks := false }, kinds := [], alts := [], laidByText := true, laidKinds := [.data, .pinned], laidTests := true, laidLooks := .later }
def PrepTextsCardSaid : Prop := Claim7.holds Tryd.pinned (.plain (OpenSpec.ofChange prepTextsSpec)) prepTextsCard

/-- THE TIED CARD OF 'chancerylaw3.PrepTwice'. -/
def prepTwiceCard : Claim7 := { stood := { row := prepTwiceRow, standIns := [], harness := (true, "0d56377337ef8d9928012e61b75de17a03f7bf257d5e92211d2c6b54fb7dd9af"), looks := false }, kinds := [], alts := [], laidByText := true, laidKinds := [.data, .pinned], laidTests := true, laidLooks := .later }
def PrepTwiceCardSaid : Prop := Claim7.holds Tryd.pinned (.plain (OpenSpec.ofChange prepTwiceSpec)) prepTwiceCard

/-- THE TIED CARD OF 'chancerylaw3.PrepBlanks'. -/
def prepBlanksCard : Claim7 := { stood := { row := prepBlanksRow, standIns := [], harness := (true, "0d56377337ef8d9928012e61b75de17a03f7bf257d5e92211d2c6b54fb7dd9af"), looks := false }, kinds := [], alts := [], laidByText := true, laidKinds := [.data, .pinned], laidTests := true, laidLooks := .later }
def PrepBlanksCardSaid : Prop := Claim7.holds Tryd.pinned (.plain (OpenSpec.ofChange prepBlanksSpec)) prepBlanksCard

/-- THE TIED CARD OF 'chancerylaw3.PrepFolds'. -/
def prepFoldsCard : Claim7 := { stood := { row := prepFoldsRow, standIns := [], harness := (true, "0d56377337ef8d9928012e61b75de17a03f7bf257d5e92211d2c6b54fb7dd9af"), looks := false }, kinds := [], alts := [], laidByText := true, laidKinds := [.data, .pinned], laidTests := true, laidLooks := .later }
def PrepFoldsCardSaid : Prop := Claim7.holds Tryd.pinned (.plain (OpenSpec.ofChange prepFoldsSpec)) prepFoldsCard

/-- THE TIED CARD OF 'chancerylaw3.PrepStands'. -/
def prepStandsCard : Claim7 := { stood := { row := prepStandsRow, standIns := [], harness := (true, "0d56377337ef8d9928012e61b75de17a03f7bf257d5e92211d2c6b54fb7dd9af"), looks := false }, kinds := [], alts := [], laidByText := true, laidKinds := [.data, .pinned], laidTests := true, laidLooks := .later }
def PrepStandsCardSaid : Prop := Claim7.holds Tryd.pinned (.plain (OpenSpec.ofChange prepStandsSpec)) prepStandsCard

/-- THE SECOND FORM's CARD OF 'chancerylaw3.PrepMaps'. -/
def prepMapsUptoCard : Claim7 := { stood := { row := prepMapsUptoRow, standIns := [], harness := (true, "0d56377337ef8d9928012e61b75de17a03f7bf257d5e92211d2c6b54fb7dd9af"), looks := false }, kinds := [], alts := [], laidByText := true, laidKinds := [.data, .pinned], laidTests := true, laidLooks := .later }
def PrepMapsUptoCardSaid : Prop := Claim7.holds Tryd.pinned (.plain (OpenSpec.upto prepMapsSpec)) prepMapsUptoCard

/-- THE SECOND FORM's CARD OF 'chancerylaw3.PrepTexts'. -/
def prepTextsUptoCard : Claim7 := { stood := { row := prepTextsUptoRow, standIns := [], harness := (true, "0d56377337ef8d9928012e61b75de17a03f7bf257d5e92211d2c6b54fb7dd9af"), looks := false }, kinds := [], alts := [], laidByText := true, laidKinds := [.data, .pinned], laidTests := true, laidLooks := .later }
def PrepTextsUptoCardSaid : Prop := Claim7.holds Tryd.pinned (.plain (OpenSpec.upto prepTextsSpec)) prepTextsUptoCard

/-- THE SECOND FORM's CARD OF 'chancerylaw3.PrepTwice'. -/
def prepTwiceUptoCard : Claim7 := { stood := { row := prepTwiceUptoRow, standIns := [], harness := (true, "0d56377337ef8d9928012e61b75de17a03f7bf257d5e92211d2c6b54fb7dd9af"), looks := false }, kinds := [], alts := [], laidByText := true, laidKinds := [.data, .pinned], laidTests := true, laidLooks := .later }
def PrepTwiceUptoCardSaid : Prop := Claim7.holds Tryd.pinned (.plain (OpenSpec.upto prepTwiceSpec)) prepTwiceUptoCard

/-- THE SECOND FORM's CARD OF 'chancerylaw3.PrepBlanks'. -/
def prepBlanksUptoCard : Claim7 := { stood := { row := prepBlanksUptoRow, standIns := [], harness := (true, "0d56377337ef8d9928012e61b75de17a03f7bf257d5e92211d2c6b54fb7dd9af"), looks := false }, kinds := [], alts := [], laidByText := true, laidKinds := [.data, .pinned], laidTests := true, laidLooks := .later }
def PrepBlanksUptoCardSaid : Prop := Claim7.holds Tryd.pinned (.plain (OpenSpec.upto prepBlanksSpec)) prepBlanksUptoCard

/-- THE SECOND FORM's CARD OF 'chancerylaw3.PrepFolds'. -/
def prepFoldsUptoCard : Claim7 := { stood := { row := prepFoldsUptoRow, standIns := [], harness := (true, "0d56377337ef8d9928012e61b75de17a03f7bf257d5e92211d2c6b54fb7dd9af"), looks := false }, kinds := [], alts := [], laidByText := true, laidKinds := [.data, .pinned], laidTests := true, laidLooks := .later }
def PrepFoldsUptoCardSaid : Prop := Claim7.holds Tryd.pinned (.plain (OpenSpec.upto prepFoldsSpec)) prepFoldsUptoCard

/-- THE SECOND FORM's CARD OF 'chancerylaw3.PrepStands'. -/
def prepStandsUptoCard : Claim7 := { stood := { row := prepStandsUptoRow, standIns := [], harness := (true, "0d56377337ef8d9928012e61b75de17a03f7bf257d5e92211d2c6b54fb7dd9af"), looks := false }, kinds := [], alts := [], laidByText := true, laidKinds := [.data, .pinned], laidTests := true, laidLooks := .later }
def PrepStandsUptoCardSaid : Prop := Claim7.holds Tryd.pinned (.plain (OpenSpec.upto prepStandsSpec)) prepStandsUptoCard
end Rows
end Go.Proofs.YtdfdponenhfbjaaDoor
