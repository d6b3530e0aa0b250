/-
  NARROWER THAN 'FOR EVERY INPUT', by the rows' own cells (each row's printed sentence says how): PrepMaps: laid · PrepTexts: laid · PrepTwice: laid · PrepBlanks: laid · PrepFolds: laid · PrepStands: laid.
  DERIVED. THE GIVEN ROWS OF THIS SEAT. 6 by the template 'for every input the law returns true; each argument reads behind the call as it read before'; 0 by the template 'total and deterministic' (their statements: YtdfdponenhfbjaaDoorTotals.lean).
  GIVEN WITH THE SEED: the statements are not yours to turn. If you find one false, say at which input.
  Laid BY PROGRAM, IN A SANDBOX (cutbox-rows.mjs): the forced cells as the released guide's own fill.sh prints them over the translation 108b617a85d65bab… (all of the seat's roots in one cut). By AI agents, Wed Nov 11 2026. No macro, syntax, notation, axiom, sorry.
-/
import Derived.Test.YtdfdponenhfbjaaDoorChecked
import GoSem.PinnedTables
import GoSem.Claim
import GoSem.ClaimJoined
import GoSem.ClaimMapViews
import Derived.JoinedTies
import Derived.KernelRfl
namespace Go.Proofs.YtdfdponenhfbjaaDoor
/- THE CELL 'sum', in the pinned program and in every row, IS THE sha256 OF THE DUMP (.gsa) THAT YtdfdponenhfbjaaDoorProg.lean LOADS. Nothing in Lean hashes anything: it is a label: what it is worth is what the hold of that sum in a sandbox is worth. -/
noncomputable def Tryd.pinned : Pinned := { name := "ytdfdponenhfbjaadoor", sum := "108b617a85d65bab38bcf7c533c6e6a2f3eeaa0ace5bc74b64be1ba79a55c50c", checked := Tryd.checked }
namespace Rows
def none {H : Type} : Left H := { results := [], args := [] }

/- WHAT THE LISTED PACKAGE-LEVEL VARIABLES READ AS WHEN THE CALL BEGINS. Each datum BY PROGRAM (the guide's laid-datum.mjs) off the statement by which the dump's own 'gosem.cut.vars' lays the variable. In a bare row this is a premise. The card (YtdfdponenhfbjaaDoorCards.lean) ties it to the program's text. -/
def laid_unicode_utf8_acceptRanges {H : Type} : DataW H := .agg [.agg [.lit (.int .u8 128), .lit (.int .u8 191)], .agg [.lit (.int .u8 160), .lit (.int .u8 191)], .agg [.lit (.int .u8 128), .lit (.int .u8 159)], .agg [.lit (.int .u8 144), .lit (.int .u8 191)], .agg [.lit (.int .u8 128), .lit (.int .u8 143)], .agg [.lit (.int .u8 0), .lit (.int .u8 0)], .agg [.lit (.int .u8 0), .lit (.int .u8 0)], .agg [.lit (.int .u8 0), .lit (.int .u8 0)], .agg [.lit (.int .u8 0), .lit (.int .u8 0)], .agg [.lit (.int .u8 0), .lit (.int .u8 0)], .agg [.lit (.int .u8 0), .lit (.int .u8 0)], .agg [.lit (.int .u8 0), .lit (.int .u8 0)], .agg [.lit (.int .u8 0), .lit (.int .u8 0)], .agg [.lit (.int .u8 0), .lit (.int .u8 0)], .agg [.lit (.int .u8 0), .lit (.int .u8 0)], .agg [.lit (.int .u8 0), .lit (.int .u8 0)]]
/-- One of Go's own tables, pinned by name: the form's constant. -/
def laid_unicode_utf8_first : DataW Unit := Go.Pinned.utf8First

/-- 'chancerylaw3.PrepMaps': WHATEVER THE INPUT: true; the input reads as it did. -/
def prepMapsSpec : ChangeSpec := { name := "prepMaps", fn := fun _ => fun
  | [d] => { results := [.lit (.bool true)], args := [d] }
  | _ => none }
def prepMapsRow : OpenClaim := { program := "ytdfdponenhfbjaadoor", sum := "108b617a85d65bab38bcf7c533c6e6a2f3eeaa0ace5bc74b64be1ba79a55c50c", func := "chancery/chancerylaw3.PrepMaps", spec := "prepMaps", inPlace := ["internal/bytealg.IndexByteString", "internal/bytealg.IndexString"], named := ["unicode/utf8.first", "unicode/utf8.acceptRanges", "internal/bytealg.MaxLen"], apart := false, laid := [("unicode/utf8.acceptRanges", laid_unicode_utf8_acceptRanges), ("unicode/utf8.first", laid_unicode_utf8_first)] }
def PrepMapsSaid : Prop := prepMapsRow.holds Tryd.pinned (OpenSpec.ofChange prepMapsSpec)

/-- ITS FALSE NEIGHBOUR: 'it returns false'. Refute it at one input. -/
def prepMapsWrong : ChangeSpec := { name := "prepMaps", fn := fun _ => fun
  | [d] => { results := [.lit (.bool false)], args := [d] }
  | _ => none }
def PrepMapsWrongFalsely : Prop := prepMapsRow.holds Tryd.pinned (OpenSpec.ofChange prepMapsWrong)

/-- 'chancerylaw3.PrepTexts': WHATEVER THE INPUT: true; the input reads as it did. -/
def prepTextsSpec : ChangeSpec := { name := "prepTexts", fn := fun _ => fun
  | [d1, d2] => { results := [.lit (.bool true)], args := [d1, d2] }
  | _ => none }
def prepTextsRow : OpenClaim := { program := "ytdfdponenhfbjaadoor", sum := "108b617a85d65bab38bcf7c533c6e6a2f3eeaa0ace5bc74b64be1ba79a55c50c", func := "chancery/chancerylaw3.PrepTexts", spec := "prepTexts", inPlace := ["internal/bytealg.IndexByteString", "internal/bytealg.IndexString"], named := ["unicode/utf8.first", "unicode/utf8.acceptRanges", "internal/bytealg.MaxLen"], apart := false, laid := [("unicode/utf8.acceptRanges", laid_unicode_utf8_acceptRanges), ("unicode/utf8.first", laid_unicode_utf8_first)] }
def PrepTextsSaid : Prop := prepTextsRow.holds Tryd.pinned (OpenSpec.ofChange prepTextsSpec)

/-- ITS FALSE NEIGHBOUR: 'it returns false'. Refute it at one input. -/
def prepTextsWrong : ChangeSpec := { name := "prepTexts", fn := fun _ => fun
  | [d1, d2] => { results := [.lit (.bool false)], args := [d1, d2] }
  | _ => none }
def PrepTextsWrongFalsely : Prop := prepTextsRow.holds Tryd.pinned (OpenSpec.ofChange prepTextsWrong)

/-- 'chancerylaw3.PrepTwice': WHATEVER THE INPUT: true; the input reads as it did. -/
def prepTwiceSpec : ChangeSpec := { name := "prepTwice", fn := fun _ => fun
  | [d1, d2] => { results := [.lit (.bool true)], args := [d1, d2] }
  | _ => none }
def prepTwiceRow : OpenClaim := { program := "ytdfdponenhfbjaadoor", sum := "108b617a85d65bab38bcf7c533c6e6a2f3eeaa0ace5bc74b64be1ba79a55c50c", func := "chancery/chancerylaw3.PrepTwice", spec := "prepTwice", inPlace := ["internal/bytealg.IndexByteString", "internal/bytealg.IndexString"], named := ["unicode/utf8.first", "unicode/utf8.acceptRanges", "internal/bytealg.MaxLen"], apart := false, laid := [("unicode/utf8.acceptRanges", laid_unicode_utf8_acceptRanges), ("unicode/utf8.first", laid_unicode_utf8_first)] }
def PrepTwiceSaid : Prop := prepTwiceRow.holds Tryd.pinned (OpenSpec.ofChange prepTwiceSpec)

/-- ITS FALSE NEIGHBOUR: 'it returns false'. Refute it at one input. -/
def prepTwiceWrong : ChangeSpec := { name := "prepTwice", fn := fun _ => fun
  | [d1, d2] => { results := [.lit (.bool false)], args := [d1, d2] }
  | _ => none }
def PrepTwiceWrongFalsely : Prop := prepTwiceRow.holds Tryd.pinned (OpenSpec.ofChange prepTwiceWrong)

/-- 'chancerylaw3.PrepBlanks': WHATEVER THE INPUT: true; the input reads as it did. -/
def prepBlanksSpec : ChangeSpec := { name := "prepBlanks", fn := fun _ => fun
  | [d1, d2, d3, d4] => { results := [.lit (.bool true)], args := [d1, d2, d3, d4] }
  | _ => none }
def prepBlanksRow : OpenClaim := { program := "ytdfdponenhfbjaadoor", sum := "108b617a85d65bab38bcf7c533c6e6a2f3eeaa0ace5bc74b64be1ba79a55c50c", func := "chancery/chancerylaw3.PrepBlanks", spec := "prepBlanks", inPlace := ["internal/bytealg.IndexByteString", "internal/bytealg.IndexString"], named := ["unicode/utf8.first", "unicode/utf8.acceptRanges", "internal/bytealg.MaxLen"], apart := false, laid := [("unicode/utf8.acceptRanges", laid_unicode_utf8_acceptRanges), ("unicode/utf8.first", laid_unicode_utf8_first)] }
def PrepBlanksSaid : Prop := prepBlanksRow.holds Tryd.pinned (OpenSpec.ofChange prepBlanksSpec)

/-- ITS FALSE NEIGHBOUR: 'it returns false'. Refute it at one input. -/
def prepBlanksWrong : ChangeSpec := { name := "prepBlanks", fn := fun _ => fun
  | [d1, d2, d3, d4] => { results := [.lit (.bool false)], args := [d1, d2, d3, d4] }
  | _ => none }
def PrepBlanksWrongFalsely : Prop := prepBlanksRow.holds Tryd.pinned (OpenSpec.ofChange prepBlanksWrong)

/-- 'chancerylaw3.PrepFolds': WHATEVER THE INPUT: true; the input reads as it did. -/
def prepFoldsSpec : ChangeSpec := { name := "prepFolds", fn := fun _ => fun
  | [d1, d2] => { results := [.lit (.bool true)], args := [d1, d2] }
  | _ => none }
def prepFoldsRow : OpenClaim := { program := "ytdfdponenhfbjaadoor", sum := "108b617a85d65bab38bcf7c533c6e6a2f3eeaa0ace5bc74b64be1ba79a55c50c", func := "chancery/chancerylaw3.PrepFolds", spec := "prepFolds", inPlace := ["internal/bytealg.IndexByteString", "internal/bytealg.IndexString"], named := ["unicode/utf8.first", "unicode/utf8.acceptRanges", "internal/bytealg.MaxLen"], apart := false, laid := [("unicode/utf8.acceptRanges", laid_unicode_utf8_acceptRanges), ("unicode/utf8.first", laid_unicode_utf8_first)] }
def PrepFoldsSaid : Prop := prepFoldsRow.holds Tryd.pinned (OpenSpec.ofChange prepFoldsSpec)

/-- ITS FALSE NEIGHBOUR: 'it returns false'. Refute it at one input. -/
def prepFoldsWrong : ChangeSpec := { name := "prepFolds", fn := fun _ => fun
  | [d1, d2] => { results := [.lit (.bool false)], args := [d1, d2] }
  | _ => none }
def PrepFoldsWrongFalsely : Prop := prepFoldsRow.holds Tryd.pinned (OpenSpec.ofChange prepFoldsWrong)

/-- 'chancerylaw3.PrepStands': WHATEVER THE INPUT: true; the input reads as it did. -/
def prepStandsSpec : ChangeSpec := { name := "prepStands", fn := fun _ => fun
  | [d1, d2] => { results := [.lit (.bool true)], args := [d1, d2] }
  | _ => none }
def prepStandsRow : OpenClaim := { program := "ytdfdponenhfbjaadoor", sum := "108b617a85d65bab38bcf7c533c6e6a2f3eeaa0ace5bc74b64be1ba79a55c50c", func := "chancery/chancerylaw3.PrepStands", spec := "prepStands", inPlace := ["internal/bytealg.IndexByteString", "internal/bytealg.IndexString"], named := ["unicode/utf8.first", "unicode/utf8.acceptRanges", "internal/bytealg.MaxLen"], apart := false, laid := [("unicode/utf8.acceptRanges", laid_unicode_utf8_acceptRanges), ("unicode/utf8.first", laid_unicode_utf8_first)] }
def PrepStandsSaid : Prop := prepStandsRow.holds Tryd.pinned (OpenSpec.ofChange prepStandsSpec)

/-- ITS FALSE NEIGHBOUR: 'it returns false'. Refute it at one input. -/
def prepStandsWrong : ChangeSpec := { name := "prepStands", fn := fun _ => fun
  | [d1, d2] => { results := [.lit (.bool false)], args := [d1, d2] }
  | _ => none }
def PrepStandsWrongFalsely : Prop := prepStandsRow.holds Tryd.pinned (OpenSpec.ofChange prepStandsWrong)

/- THE SECOND FORM. 'bulk': how many values and letters a reading holds, each counted each time it is reached (what is shared counts as often as it is met; a slice's spare places count too). A statement '..UptoSaid' is the law's where the arguments, and the package variables that the reading takes, are together of bulk at most 1048576: NARROWER than '..Said'. Prove '..Said' where nothing that the law and all that it calls make is longer than what came in: it says more and counts as full. Else prove '..UptoSaid'. A law counts once. -/
mutual
def uptoBulk {H : Type} : DataW H → Nat
  | .lit (.string bytes) => bytes.length + 1
  | .lit _ => 1
  | .nil => 1
  | .ptr d => uptoBulk d + 1
  | .slice elems spare => uptoBulkAll elems + uptoBulkAll spare + 1
  | .agg parts => uptoBulkAll parts + 1
  | .iface _ d => uptoBulk d + 1
  | .map entries => uptoBulkEntries entries + 1
  | .held _ => 1
def uptoBulkAll {H : Type} : List (DataW H) → Nat
  | [] => 0
  | d :: r => uptoBulk d + uptoBulkAll r
def uptoBulkEntries {H : Type} : List (Lit × DataW H) → Nat
  | [] => 0
  | x :: r => uptoBulkEntry x + uptoBulkEntries r
def uptoBulkEntry {H : Type} : Lit × DataW H → Nat
  | (.string bytes, d) => bytes.length + uptoBulk d + 1
  | (_, d) => uptoBulk d + 1
 end
def uptoSmall : (H : Type) → List (DataW H) → Bool := fun _ ds => decide (uptoBulkAll ds ≤ 1048576)
def OpenSpec.upto (s : _root_.Go.ChangeSpec) : _root_.Go.OpenSpec := { _root_.Go.OpenSpec.ofChange s with cond := some uptoSmall }

/-- 'chancerylaw3.PrepMaps', WHERE WHAT IT READS IS OF BULK AT MOST 1048576: true; the input reads as it did. -/
def prepMapsUptoRow : OpenClaim := { program := "ytdfdponenhfbjaadoor", sum := "108b617a85d65bab38bcf7c533c6e6a2f3eeaa0ace5bc74b64be1ba79a55c50c", func := "chancery/chancerylaw3.PrepMaps", spec := "prepMaps", inPlace := ["internal/bytealg.IndexByteString", "internal/bytealg.IndexString"], named := ["unicode/utf8.first", "unicode/utf8.acceptRanges", "internal/bytealg.MaxLen"], apart := false, laid := [("unicode/utf8.acceptRanges", laid_unicode_utf8_acceptRanges), ("unicode/utf8.first", laid_unicode_utf8_first)], narrowed := true }
def PrepMapsUptoSaid : Prop := prepMapsUptoRow.holds Tryd.pinned (OpenSpec.upto prepMapsSpec)

/-- 'chancerylaw3.PrepTexts', WHERE WHAT IT READS IS OF BULK AT MOST 1048576: true; the input reads as it did. -/
def prepTextsUptoRow : OpenClaim := { program := "ytdfdponenhfbjaadoor", sum := "108b617a85d65bab38bcf7c533c6e6a2f3eeaa0ace5bc74b64be1ba79a55c50c", func := "chancery/chancerylaw3.PrepTexts", spec := "prepTexts", inPlace := ["internal/bytealg.IndexByteString", "internal/bytealg.IndexString"], named := ["unicode/utf8.first", "unicode/utf8.acceptRanges", "internal/bytealg.MaxLen"], apart := false, laid := [("unicode/utf8.acceptRanges", laid_unicode_utf8_acceptRanges), ("unicode/utf8.first", laid_unicode_utf8_first)], narrowed := true }
def PrepTextsUptoSaid : Prop := prepTextsUptoRow.holds Tryd.pinned (OpenSpec.upto prepTextsSpec)

/-- 'chancerylaw3.PrepTwice', WHERE WHAT IT READS IS OF BULK AT MOST 1048576: true; the input reads as it did. -/
def prepTwiceUptoRow : OpenClaim := { program := "ytdfdponenhfbjaadoor", sum := "108b617a85d65bab38bcf7c533c6e6a2f3eeaa0ace5bc74b64be1ba79a55c50c", func := "chancery/chancerylaw3.PrepTwice", spec := "prepTwice", inPlace := ["internal/bytealg.IndexByteString", "internal/bytealg.IndexString"], named := ["unicode/utf8.first", "unicode/utf8.acceptRanges", "internal/bytealg.MaxLen"], apart := false, laid := [("unicode/utf8.acceptRanges", laid_unicode_utf8_acceptRanges), ("unicode/utf8.first", laid_unicode_utf8_first)], narrowed := true }
def PrepTwiceUptoSaid : Prop := prepTwiceUptoRow.holds Tryd.pinned (OpenSpec.upto prepTwiceSpec)

/-- 'chancerylaw3.PrepBlanks', WHERE WHAT IT READS IS OF BULK AT MOST 1048576: true; the input reads as it did. -/
def prepBlanksUptoRow : OpenClaim := { program := "ytdfdponenhfbjaadoor", sum := "108b617a85d65bab38bcf7c533c6e6a2f3eeaa0ace5bc74b64be1ba79a55c50c", func := "chancery/chancerylaw3.PrepBlanks", spec := "prepBlanks", inPlace := ["internal/bytealg.IndexByteString", "internal/bytealg.IndexString"], named := ["unicode/utf8.first", "unicode/utf8.acceptRanges", "internal/bytealg.MaxLen"], apart := false, laid := [("unicode/utf8.acceptRanges", laid_unicode_utf8_acceptRanges), ("unicode/utf8.first", laid_unicode_utf8_first)], narrowed := true }
def PrepBlanksUptoSaid : Prop := prepBlanksUptoRow.holds Tryd.pinned (OpenSpec.upto prepBlanksSpec)

/-- 'chancerylaw3.PrepFolds', WHERE WHAT IT READS IS OF BULK AT MOST 1048576: true; the input reads as it did. -/
def prepFoldsUptoRow : OpenClaim := { program := "ytdfdponenhfbjaadoor", sum := "108b617a85d65bab38bcf7c533c6e6a2f3eeaa0ace5bc74b64be1ba79a55c50c", func := "chancery/chancerylaw3.PrepFolds", spec := "prepFolds", inPlace := ["internal/bytealg.IndexByteString", "internal/bytealg.IndexString"], named := ["unicode/utf8.first", "unicode/utf8.acceptRanges", "internal/bytealg.MaxLen"], apart := false, laid := [("unicode/utf8.acceptRanges", laid_unicode_utf8_acceptRanges), ("unicode/utf8.first", laid_unicode_utf8_first)], narrowed := true }
def PrepFoldsUptoSaid : Prop := prepFoldsUptoRow.holds Tryd.pinned (OpenSpec.upto prepFoldsSpec)

/-- 'chancerylaw3.PrepStands', WHERE WHAT IT READS IS OF BULK AT MOST 1048576: true; the input reads as it did. -/
def prepStandsUptoRow : OpenClaim := { program := "ytdfdponenhfbjaadoor", sum := "108b617a85d65bab38bcf7c533c6e6a2f3eeaa0ace5bc74b64be1ba79a55c50c", func := "chancery/chancerylaw3.PrepStands", spec := "prepStands", inPlace := ["internal/bytealg.IndexByteString", "internal/bytealg.IndexString"], named := ["unicode/utf8.first", "unicode/utf8.acceptRanges", "internal/bytealg.MaxLen"], apart := false, laid := [("unicode/utf8.acceptRanges", laid_unicode_utf8_acceptRanges), ("unicode/utf8.first", laid_unicode_utf8_first)], narrowed := true }
def PrepStandsUptoSaid : Prop := prepStandsUptoRow.holds Tryd.pinned (OpenSpec.upto prepStandsSpec)

end Rows
end Go.Proofs.YtdfdponenhfbjaaDoor
