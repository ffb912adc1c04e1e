/-
  NARROWER THAN 'FOR EVERY INPUT', by the rows' own cells (each row's printed sentence says how): LexReads: laid · LinesOf: laid · LinesGrow: laid · ParseLines: laid · ParseShows: laid · GlobMatches: laid · GlobPaths: laid · MakefileLines: laid · ShowTexts: laid.
  DERIVED. THE GIVEN ROWS OF THIS SEAT. 9 by the template 'for every input the law returns true; each argument reads behind the call as it read before'; 0 by the template 'total and deterministic' (their statements: YtgpabkdmagifjaaDoorTotals.lean).
  GIVEN WITH THE SEED: the statements are not yours to turn. If you find one false, say at which input.
  Laid BY PROGRAM, IN A SANDBOX (cutbox-rows.mjs): the forced cells as the released guide's own fill.sh prints them over the translation bee5ea20f1a375d3… (all of the seat's roots in one cut). By AI agents, Wed Nov 11 2026. No macro, syntax, notation, axiom, sorry.
-/
import Derived.Test.YtgpabkdmagifjaaDoorChecked
import GoSem.PinnedTables
import GoSem.Claim
import GoSem.ClaimJoined
import GoSem.ClaimMapViews
import Derived.JoinedTies
import Derived.KernelRfl
namespace Go.Proofs.YtgpabkdmagifjaaDoor
/- THE CELL 'sum', in the pinned program and in every row, IS THE sha256 OF THE DUMP (.gsa) THAT YtgpabkdmagifjaaDoorProg.lean LOADS. Nothing in Lean hashes anything: it is a label: what it is worth is what the hold of that sum in a sandbox is worth. -/
noncomputable def Tryd.pinned : Pinned := { name := "ytgpabkdmagifjaadoor", sum := "bee5ea20f1a375d3110fd7a8799aa42beddfafd1d904e1329054bd1edcb92d29", checked := Tryd.checked }
namespace Rows
def none {H : Type} : Left H := { results := [], args := [] }

/- WHAT THE LISTED PACKAGE-LEVEL VARIABLES READ AS WHEN THE CALL BEGINS. Each datum BY PROGRAM (the guide's laid-datum.mjs) off the statement by which the dump's own 'gosem.cut.vars' lays the variable. In a bare row this is a premise. The card (YtgpabkdmagifjaaDoorCards.lean) ties it to the program's text. -/
def laid_unicode_utf8_acceptRanges {H : Type} : DataW H := .agg [.agg [.lit (.int .u8 128), .lit (.int .u8 191)], .agg [.lit (.int .u8 160), .lit (.int .u8 191)], .agg [.lit (.int .u8 128), .lit (.int .u8 159)], .agg [.lit (.int .u8 144), .lit (.int .u8 191)], .agg [.lit (.int .u8 128), .lit (.int .u8 143)], .agg [.lit (.int .u8 0), .lit (.int .u8 0)], .agg [.lit (.int .u8 0), .lit (.int .u8 0)], .agg [.lit (.int .u8 0), .lit (.int .u8 0)], .agg [.lit (.int .u8 0), .lit (.int .u8 0)], .agg [.lit (.int .u8 0), .lit (.int .u8 0)], .agg [.lit (.int .u8 0), .lit (.int .u8 0)], .agg [.lit (.int .u8 0), .lit (.int .u8 0)], .agg [.lit (.int .u8 0), .lit (.int .u8 0)], .agg [.lit (.int .u8 0), .lit (.int .u8 0)], .agg [.lit (.int .u8 0), .lit (.int .u8 0)], .agg [.lit (.int .u8 0), .lit (.int .u8 0)]]
/-- One of Go's own tables, pinned by name: the form's constant. -/
def laid_unicode_utf8_first : DataW Unit := Go.Pinned.utf8First

/-- 'flatironlaw05.LexReads': WHATEVER THE INPUT: true; the input reads as it did. -/
def lexReadsSpec : ChangeSpec := { name := "lexReads", fn := fun _ => fun
  | [d] => { results := [.lit (.bool true)], args := [d] }
  | _ => none }
def lexReadsRow : OpenClaim := { program := "ytgpabkdmagifjaadoor", sum := "bee5ea20f1a375d3110fd7a8799aa42beddfafd1d904e1329054bd1edcb92d29", func := "flatiron/flatironlaw05.LexReads", spec := "lexReads", inPlace := ["internal/bytealg.IndexByteString", "internal/abi.NoEscape", "internal/bytealg.IndexString", "internal/bytealg.CountString", "internal/bytealg.MakeNoZero"], named := ["internal/bytealg.MaxLen", "unicode/utf8.first", "unicode/utf8.acceptRanges"], apart := false, laid := [("unicode/utf8.acceptRanges", laid_unicode_utf8_acceptRanges), ("unicode/utf8.first", laid_unicode_utf8_first)] }
def LexReadsSaid : Prop := lexReadsRow.holds Tryd.pinned (OpenSpec.ofChange lexReadsSpec)

/-- ITS FALSE NEIGHBOUR: 'it returns false'. Refute it at one input. -/
def lexReadsWrong : ChangeSpec := { name := "lexReads", fn := fun _ => fun
  | [d] => { results := [.lit (.bool false)], args := [d] }
  | _ => none }
def LexReadsWrongFalsely : Prop := lexReadsRow.holds Tryd.pinned (OpenSpec.ofChange lexReadsWrong)

/-- 'flatironlaw08.LinesOf': WHATEVER THE INPUT: true; the input reads as it did. -/
def linesOfSpec : ChangeSpec := { name := "linesOf", fn := fun _ => fun
  | [d] => { results := [.lit (.bool true)], args := [d] }
  | _ => none }
def linesOfRow : OpenClaim := { program := "ytgpabkdmagifjaadoor", sum := "bee5ea20f1a375d3110fd7a8799aa42beddfafd1d904e1329054bd1edcb92d29", func := "flatiron/flatironlaw08.LinesOf", spec := "linesOf", inPlace := ["internal/bytealg.IndexByteString", "internal/bytealg.IndexString", "internal/abi.NoEscape", "internal/bytealg.MakeNoZero", "internal/bytealg.CountString"], unfollowed := true, recurses := true, named := ["unicode/utf8.first", "unicode/utf8.acceptRanges", "internal/bytealg.MaxLen"], apart := false, laid := [("unicode/utf8.acceptRanges", laid_unicode_utf8_acceptRanges), ("unicode/utf8.first", laid_unicode_utf8_first)] }
def LinesOfSaid : Prop := linesOfRow.holds Tryd.pinned (OpenSpec.ofChange linesOfSpec)

/-- ITS FALSE NEIGHBOUR: 'it returns false'. Refute it at one input. -/
def linesOfWrong : ChangeSpec := { name := "linesOf", fn := fun _ => fun
  | [d] => { results := [.lit (.bool false)], args := [d] }
  | _ => none }
def LinesOfWrongFalsely : Prop := linesOfRow.holds Tryd.pinned (OpenSpec.ofChange linesOfWrong)

/-- 'flatironlaw08.LinesGrow': WHATEVER THE INPUT: true; the input reads as it did. -/
def linesGrowSpec : ChangeSpec := { name := "linesGrow", fn := fun _ => fun
  | [d1, d2] => { results := [.lit (.bool true)], args := [d1, d2] }
  | _ => none }
def linesGrowRow : OpenClaim := { program := "ytgpabkdmagifjaadoor", sum := "bee5ea20f1a375d3110fd7a8799aa42beddfafd1d904e1329054bd1edcb92d29", func := "flatiron/flatironlaw08.LinesGrow", spec := "linesGrow", inPlace := ["internal/bytealg.IndexByteString", "internal/bytealg.IndexString", "internal/abi.NoEscape", "internal/bytealg.MakeNoZero", "internal/bytealg.CountString"], unfollowed := true, recurses := true, named := ["unicode/utf8.first", "unicode/utf8.acceptRanges", "internal/bytealg.MaxLen"], apart := false, laid := [("unicode/utf8.acceptRanges", laid_unicode_utf8_acceptRanges), ("unicode/utf8.first", laid_unicode_utf8_first)] }
def LinesGrowSaid : Prop := linesGrowRow.holds Tryd.pinned (OpenSpec.ofChange linesGrowSpec)

/-- ITS FALSE NEIGHBOUR: 'it returns false'. Refute it at one input. -/
def linesGrowWrong : ChangeSpec := { name := "linesGrow", fn := fun _ => fun
  | [d1, d2] => { results := [.lit (.bool false)], args := [d1, d2] }
  | _ => none }
def LinesGrowWrongFalsely : Prop := linesGrowRow.holds Tryd.pinned (OpenSpec.ofChange linesGrowWrong)

/-- 'flatironlaw06.ParseLines': WHATEVER THE INPUT: true; the input reads as it did. -/
def parseLinesSpec : ChangeSpec := { name := "parseLines", fn := fun _ => fun
  | [d] => { results := [.lit (.bool true)], args := [d] }
  | _ => none }
def parseLinesRow : OpenClaim := { program := "ytgpabkdmagifjaadoor", sum := "bee5ea20f1a375d3110fd7a8799aa42beddfafd1d904e1329054bd1edcb92d29", func := "flatiron/flatironlaw06.ParseLines", spec := "parseLines", inPlace := ["internal/bytealg.IndexByteString", "internal/abi.NoEscape", "internal/bytealg.IndexString", "internal/bytealg.CountString", "internal/bytealg.MakeNoZero"], unfollowed := true, recurses := true, named := ["internal/bytealg.MaxLen", "unicode/utf8.first", "unicode/utf8.acceptRanges"], apart := false, laid := [("unicode/utf8.acceptRanges", laid_unicode_utf8_acceptRanges), ("unicode/utf8.first", laid_unicode_utf8_first)] }
def ParseLinesSaid : Prop := parseLinesRow.holds Tryd.pinned (OpenSpec.ofChange parseLinesSpec)

/-- ITS FALSE NEIGHBOUR: 'it returns false'. Refute it at one input. -/
def parseLinesWrong : ChangeSpec := { name := "parseLines", fn := fun _ => fun
  | [d] => { results := [.lit (.bool false)], args := [d] }
  | _ => none }
def ParseLinesWrongFalsely : Prop := parseLinesRow.holds Tryd.pinned (OpenSpec.ofChange parseLinesWrong)

/-- 'flatironlaw06.ParseShows': WHATEVER THE INPUT: true; the input reads as it did. -/
def parseShowsSpec : ChangeSpec := { name := "parseShows", fn := fun _ => fun
  | [d] => { results := [.lit (.bool true)], args := [d] }
  | _ => none }
def parseShowsRow : OpenClaim := { program := "ytgpabkdmagifjaadoor", sum := "bee5ea20f1a375d3110fd7a8799aa42beddfafd1d904e1329054bd1edcb92d29", func := "flatiron/flatironlaw06.ParseShows", spec := "parseShows", inPlace := ["internal/bytealg.IndexByteString", "internal/abi.NoEscape", "internal/bytealg.IndexString", "internal/bytealg.CountString", "internal/bytealg.MakeNoZero"], unfollowed := true, recurses := true, named := ["internal/bytealg.MaxLen", "unicode/utf8.first", "unicode/utf8.acceptRanges"], apart := false, laid := [("unicode/utf8.acceptRanges", laid_unicode_utf8_acceptRanges), ("unicode/utf8.first", laid_unicode_utf8_first)] }
def ParseShowsSaid : Prop := parseShowsRow.holds Tryd.pinned (OpenSpec.ofChange parseShowsSpec)

/-- ITS FALSE NEIGHBOUR: 'it returns false'. Refute it at one input. -/
def parseShowsWrong : ChangeSpec := { name := "parseShows", fn := fun _ => fun
  | [d] => { results := [.lit (.bool false)], args := [d] }
  | _ => none }
def ParseShowsWrongFalsely : Prop := parseShowsRow.holds Tryd.pinned (OpenSpec.ofChange parseShowsWrong)

/-- 'flatironlaw02.GlobMatches': WHATEVER THE INPUT: true; the input reads as it did. -/
def globMatchesSpec : ChangeSpec := { name := "globMatches", fn := fun _ => fun
  | [d1, d2] => { results := [.lit (.bool true)], args := [d1, d2] }
  | _ => none }
def globMatchesRow : OpenClaim := { program := "ytgpabkdmagifjaadoor", sum := "bee5ea20f1a375d3110fd7a8799aa42beddfafd1d904e1329054bd1edcb92d29", func := "flatiron/flatironlaw02.GlobMatches", spec := "globMatches", inPlace := ["internal/bytealg.IndexByteString", "internal/bytealg.IndexString", "internal/bytealg.CountString", "internal/abi.NoEscape", "internal/bytealg.MakeNoZero"], unfollowed := true, recurses := true, named := ["unicode/utf8.first", "unicode/utf8.acceptRanges", "internal/bytealg.MaxLen"], apart := false, laid := [("unicode/utf8.acceptRanges", laid_unicode_utf8_acceptRanges), ("unicode/utf8.first", laid_unicode_utf8_first)] }
def GlobMatchesSaid : Prop := globMatchesRow.holds Tryd.pinned (OpenSpec.ofChange globMatchesSpec)

/-- ITS FALSE NEIGHBOUR: 'it returns false'. Refute it at one input. -/
def globMatchesWrong : ChangeSpec := { name := "globMatches", fn := fun _ => fun
  | [d1, d2] => { results := [.lit (.bool false)], args := [d1, d2] }
  | _ => none }
def GlobMatchesWrongFalsely : Prop := globMatchesRow.holds Tryd.pinned (OpenSpec.ofChange globMatchesWrong)

/-- 'flatironlaw02.GlobPaths': WHATEVER THE INPUT: true; the input reads as it did. -/
def globPathsSpec : ChangeSpec := { name := "globPaths", fn := fun _ => fun
  | [d1, d2] => { results := [.lit (.bool true)], args := [d1, d2] }
  | _ => none }
def globPathsRow : OpenClaim := { program := "ytgpabkdmagifjaadoor", sum := "bee5ea20f1a375d3110fd7a8799aa42beddfafd1d904e1329054bd1edcb92d29", func := "flatiron/flatironlaw02.GlobPaths", spec := "globPaths", inPlace := ["internal/bytealg.IndexByteString", "internal/bytealg.IndexString", "internal/bytealg.CountString", "internal/abi.NoEscape", "internal/bytealg.MakeNoZero"], unfollowed := true, recurses := true, named := ["unicode/utf8.first", "unicode/utf8.acceptRanges", "internal/bytealg.MaxLen"], apart := false, laid := [("unicode/utf8.acceptRanges", laid_unicode_utf8_acceptRanges), ("unicode/utf8.first", laid_unicode_utf8_first)] }
def GlobPathsSaid : Prop := globPathsRow.holds Tryd.pinned (OpenSpec.ofChange globPathsSpec)

/-- ITS FALSE NEIGHBOUR: 'it returns false'. Refute it at one input. -/
def globPathsWrong : ChangeSpec := { name := "globPaths", fn := fun _ => fun
  | [d1, d2] => { results := [.lit (.bool false)], args := [d1, d2] }
  | _ => none }
def GlobPathsWrongFalsely : Prop := globPathsRow.holds Tryd.pinned (OpenSpec.ofChange globPathsWrong)

/-- 'flatironlaw09.MakefileLines': WHATEVER THE INPUT: true; the input reads as it did. -/
def makefileLinesSpec : ChangeSpec := { name := "makefileLines", fn := fun _ => fun
  | [d1, d2, d3] => { results := [.lit (.bool true)], args := [d1, d2, d3] }
  | _ => none }
def makefileLinesRow : OpenClaim := { program := "ytgpabkdmagifjaadoor", sum := "bee5ea20f1a375d3110fd7a8799aa42beddfafd1d904e1329054bd1edcb92d29", func := "flatiron/flatironlaw09.MakefileLines", spec := "makefileLines", inPlace := ["internal/bytealg.IndexByteString", "internal/bytealg.IndexString", "internal/abi.NoEscape", "internal/bytealg.MakeNoZero", "internal/bytealg.CountString"], unfollowed := true, recurses := true, named := ["unicode/utf8.first", "unicode/utf8.acceptRanges", "internal/bytealg.MaxLen"], apart := false, laid := [("unicode/utf8.acceptRanges", laid_unicode_utf8_acceptRanges), ("unicode/utf8.first", laid_unicode_utf8_first)] }
def MakefileLinesSaid : Prop := makefileLinesRow.holds Tryd.pinned (OpenSpec.ofChange makefileLinesSpec)

/-- ITS FALSE NEIGHBOUR: 'it returns false'. Refute it at one input. -/
def makefileLinesWrong : ChangeSpec := { name := "makefileLines", fn := fun _ => fun
  | [d1, d2, d3] => { results := [.lit (.bool false)], args := [d1, d2, d3] }
  | _ => none }
def MakefileLinesWrongFalsely : Prop := makefileLinesRow.holds Tryd.pinned (OpenSpec.ofChange makefileLinesWrong)

/-- 'flatironlaw10.ShowTexts': WHATEVER THE INPUT: true; the input reads as it did. -/
def showTextsSpec : ChangeSpec := { name := "showTexts", fn := fun _ => fun
  | [d] => { results := [.lit (.bool true)], args := [d] }
  | _ => none }
def showTextsRow : OpenClaim := { program := "ytgpabkdmagifjaadoor", sum := "bee5ea20f1a375d3110fd7a8799aa42beddfafd1d904e1329054bd1edcb92d29", func := "flatiron/flatironlaw10.ShowTexts", spec := "showTexts", inPlace := ["internal/abi.NoEscape", "internal/bytealg.MakeNoZero", "internal/bytealg.CountString", "internal/bytealg.IndexByteString", "internal/bytealg.IndexString"], unfollowed := true, recurses := true, named := ["internal/bytealg.MaxLen", "unicode/utf8.first", "unicode/utf8.acceptRanges"], apart := false, laid := [("unicode/utf8.acceptRanges", laid_unicode_utf8_acceptRanges), ("unicode/utf8.first", laid_unicode_utf8_first)] }
def ShowTextsSaid : Prop := showTextsRow.holds Tryd.pinned (OpenSpec.ofChange showTextsSpec)

/-- ITS FALSE NEIGHBOUR: 'it returns false'. Refute it at one input. -/
def showTextsWrong : ChangeSpec := { name := "showTexts", fn := fun _ => fun
  | [d] => { results := [.lit (.bool false)], args := [d] }
  | _ => none }
def ShowTextsWrongFalsely : Prop := showTextsRow.holds Tryd.pinned (OpenSpec.ofChange showTextsWrong)

/- THE SECOND FORM. 'bulk': how many values and letters a reading holds, each counted each time it is reached (what is shared counts as often as it is met; a slice's spare places count too). A statement '..UptoSaid' is the law's where the arguments, and the package variables that the reading takes, are together of bulk at most 1048576: NARROWER than '..Said'. Prove '..Said' where nothing that the law and all that it calls make is longer than what came in: it says more and counts as full. Else prove '..UptoSaid'. A law counts once. -/
mutual
def uptoBulk {H : Type} : DataW H → Nat
  | .lit (.string bytes) => bytes.length + 1
  | .lit _ => 1
  | .nil => 1
  | .ptr d => uptoBulk d + 1
  | .slice elems spare => uptoBulkAll elems + uptoBulkAll spare + 1
  | .agg parts => uptoBulkAll parts + 1
  | .iface _ d => uptoBulk d + 1
  | .map entries => uptoBulkEntries entries + 1
  | .held _ => 1
def uptoBulkAll {H : Type} : List (DataW H) → Nat
  | [] => 0
  | d :: r => uptoBulk d + uptoBulkAll r
def uptoBulkEntries {H : Type} : List (Lit × DataW H) → Nat
  | [] => 0
  | x :: r => uptoBulkEntry x + uptoBulkEntries r
def uptoBulkEntry {H : Type} : Lit × DataW H → Nat
  | (.string bytes, d) => bytes.length + uptoBulk d + 1
  | (_, d) => uptoBulk d + 1
 end
def uptoSmall : (H : Type) → List (DataW H) → Bool := fun _ ds => decide (uptoBulkAll ds ≤ 1048576)
def OpenSpec.upto (s : _root_.Go.ChangeSpec) : _root_.Go.OpenSpec := { _root_.Go.OpenSpec.ofChange s with cond := some uptoSmall }

/-- 'flatironlaw05.LexReads', WHERE WHAT IT READS IS OF BULK AT MOST 1048576: true; the input reads as it did. -/
def lexReadsUptoRow : OpenClaim := { program := "ytgpabkdmagifjaadoor", sum := "bee5ea20f1a375d3110fd7a8799aa42beddfafd1d904e1329054bd1edcb92d29", func := "flatiron/flatironlaw05.LexReads", spec := "lexReads", inPlace := ["internal/bytealg.IndexByteString", "internal/abi.NoEscape", "internal/bytealg.IndexString", "internal/bytealg.CountString", "internal/bytealg.MakeNoZero"], named := ["internal/bytealg.MaxLen", "unicode/utf8.first", "unicode/utf8.acceptRanges"], apart := false, laid := [("unicode/utf8.acceptRanges", laid_unicode_utf8_acceptRanges), ("unicode/utf8.first", laid_unicode_utf8_first)], narrowed := true }
def LexReadsUptoSaid : Prop := lexReadsUptoRow.holds Tryd.pinned (OpenSpec.upto lexReadsSpec)

/-- 'flatironlaw08.LinesOf', WHERE WHAT IT READS IS OF BULK AT MOST 1048576: true; the input reads as it did. -/
def linesOfUptoRow : OpenClaim := { program := "ytgpabkdmagifjaadoor", sum := "bee5ea20f1a375d3110fd7a8799aa42beddfafd1d904e1329054bd1edcb92d29", func := "flatiron/flatironlaw08.LinesOf", spec := "linesOf", inPlace := ["internal/bytealg.IndexByteString", "internal/bytealg.IndexString", "internal/abi.NoEscape", "internal/bytealg.MakeNoZero", "internal/bytealg.CountString"], unfollowed := true, recurses := true, named := ["unicode/utf8.first", "unicode/utf8.acceptRanges", "internal/bytealg.MaxLen"], apart := false, laid := [("unicode/utf8.acceptRanges", laid_unicode_utf8_acceptRanges), ("unicode/utf8.first", laid_unicode_utf8_first)], narrowed := true }
def LinesOfUptoSaid : Prop := linesOfUptoRow.holds Tryd.pinned (OpenSpec.upto linesOfSpec)

/-- 'flatironlaw08.LinesGrow', WHERE WHAT IT READS IS OF BULK AT MOST 1048576: true; the input reads as it did. -/
def linesGrowUptoRow : OpenClaim := { program := "ytgpabkdmagifjaadoor", sum := "bee5ea20f1a375d3110fd7a8799aa42beddfafd1d904e1329054bd1edcb92d29", func := "flatiron/flatironlaw08.LinesGrow", spec := "linesGrow", inPlace := ["internal/bytealg.IndexByteString", "internal/bytealg.IndexString", "internal/abi.NoEscape", "internal/bytealg.MakeNoZero", "internal/bytealg.CountString"], unfollowed := true, recurses := true, named := ["unicode/utf8.first", "unicode/utf8.acceptRanges", "internal/bytealg.MaxLen"], apart := false, laid := [("unicode/utf8.acceptRanges", laid_unicode_utf8_acceptRanges), ("unicode/utf8.first", laid_unicode_utf8_first)], narrowed := true }
def LinesGrowUptoSaid : Prop := linesGrowUptoRow.holds Tryd.pinned (OpenSpec.upto linesGrowSpec)

/-- 'flatironlaw06.ParseLines', WHERE WHAT IT READS IS OF BULK AT MOST 1048576: true; the input reads as it did. -/
def parseLinesUptoRow : OpenClaim := { program := "ytgpabkdmagifjaadoor", sum := "bee5ea20f1a375d3110fd7a8799aa42beddfafd1d904e1329054bd1edcb92d29", func := "flatiron/flatironlaw06.ParseLines", spec := "parseLines", inPlace := ["internal/bytealg.IndexByteString", "internal/abi.NoEscape", "internal/bytealg.IndexString", "internal/bytealg.CountString", "internal/bytealg.MakeNoZero"], unfollowed := true, recurses := true, named := ["internal/bytealg.MaxLen", "unicode/utf8.first", "unicode/utf8.acceptRanges"], apart := false, laid := [("unicode/utf8.acceptRanges", laid_unicode_utf8_acceptRanges), ("unicode/utf8.first", laid_unicode_utf8_first)], narrowed := true }
def ParseLinesUptoSaid : Prop := parseLinesUptoRow.holds Tryd.pinned (OpenSpec.upto parseLinesSpec)

/-- 'flatironlaw06.ParseShows', WHERE WHAT IT READS IS OF BULK AT MOST 1048576: true; the input reads as it did. -/
def parseShowsUptoRow : OpenClaim := { program := "ytgpabkdmagifjaadoor", sum := "bee5ea20f1a375d3110fd7a8799aa42beddfafd1d904e1329054bd1edcb92d29", func := "flatiron/flatironlaw06.ParseShows", spec := "parseShows", inPlace := ["internal/bytealg.IndexByteString", "internal/abi.NoEscape", "internal/bytealg.IndexString", "internal/bytealg.CountString", "internal/bytealg.MakeNoZero"], unfollowed := true, recurses := true, named := ["internal/bytealg.MaxLen", "unicode/utf8.first", "unicode/utf8.acceptRanges"], apart := false, laid := [("unicode/utf8.acceptRanges", laid_unicode_utf8_acceptRanges), ("unicode/utf8.first", laid_unicode_utf8_first)], narrowed := true }
def ParseShowsUptoSaid : Prop := parseShowsUptoRow.holds Tryd.pinned (OpenSpec.upto parseShowsSpec)

/-- 'flatironlaw02.GlobMatches', WHERE WHAT IT READS IS OF BULK AT MOST 1048576: true; the input reads as it did. -/
def globMatchesUptoRow : OpenClaim := { program := "ytgpabkdmagifjaadoor", sum := "bee5ea20f1a375d3110fd7a8799aa42beddfafd1d904e1329054bd1edcb92d29", func := "flatiron/flatironlaw02.GlobMatches", spec := "globMatches", inPlace := ["internal/bytealg.IndexByteString", "internal/bytealg.IndexString", "internal/bytealg.CountString", "internal/abi.NoEscape", "internal/bytealg.MakeNoZero"], unfollowed := true, recurses := true, named := ["unicode/utf8.first", "unicode/utf8.acceptRanges", "internal/bytealg.MaxLen"], apart := false, laid := [("unicode/utf8.acceptRanges", laid_unicode_utf8_acceptRanges), ("unicode/utf8.first", laid_unicode_utf8_first)], narrowed := true }
def GlobMatchesUptoSaid : Prop := globMatchesUptoRow.holds Tryd.pinned (OpenSpec.upto globMatchesSpec)

/-- 'flatironlaw02.GlobPaths', WHERE WHAT IT READS IS OF BULK AT MOST 1048576: true; the input reads as it did. -/
def globPathsUptoRow : OpenClaim := { program := "ytgpabkdmagifjaadoor", sum := "bee5ea20f1a375d3110fd7a8799aa42beddfafd1d904e1329054bd1edcb92d29", func := "flatiron/flatironlaw02.GlobPaths", spec := "globPaths", inPlace := ["internal/bytealg.IndexByteString", "internal/bytealg.IndexString", "internal/bytealg.CountString", "internal/abi.NoEscape", "internal/bytealg.MakeNoZero"], unfollowed := true, recurses := true, named := ["unicode/utf8.first", "unicode/utf8.acceptRanges", "internal/bytealg.MaxLen"], apart := false, laid := [("unicode/utf8.acceptRanges", laid_unicode_utf8_acceptRanges), ("unicode/utf8.first", laid_unicode_utf8_first)], narrowed := true }
def GlobPathsUptoSaid : Prop := globPathsUptoRow.holds Tryd.pinned (OpenSpec.upto globPathsSpec)

/-- 'flatironlaw09.MakefileLines', WHERE WHAT IT READS IS OF BULK AT MOST 1048576: true; the input reads as it did. -/
def makefileLinesUptoRow : OpenClaim := { program := "ytgpabkdmagifjaadoor", sum := "bee5ea20f1a375d3110fd7a8799aa42beddfafd1d904e1329054bd1edcb92d29", func := "flatiron/flatironlaw09.MakefileLines", spec := "makefileLines", inPlace := ["internal/bytealg.IndexByteString", "internal/bytealg.IndexString", "internal/abi.NoEscape", "internal/bytealg.MakeNoZero", "internal/bytealg.CountString"], unfollowed := true, recurses := true, named := ["unicode/utf8.first", "unicode/utf8.acceptRanges", "internal/bytealg.MaxLen"], apart := false, laid := [("unicode/utf8.acceptRanges", laid_unicode_utf8_acceptRanges), ("unicode/utf8.first", laid_unicode_utf8_first)], narrowed := true }
def MakefileLinesUptoSaid : Prop := makefileLinesUptoRow.holds Tryd.pinned (OpenSpec.upto makefileLinesSpec)

/-- 'flatironlaw10.ShowTexts', WHERE WHAT IT READS IS OF BULK AT MOST 1048576: true; the input reads as it did. -/
def showTextsUptoRow : OpenClaim := { program := "ytgpabkdmagifjaadoor", sum := "bee5ea20f1a375d3110fd7a8799aa42beddfafd1d904e1329054bd1edcb92d29", func := "flatiron/flatironlaw10.ShowTexts", spec := "showTexts", inPlace := ["internal/abi.NoEscape", "internal/bytealg.MakeNoZero", "internal/bytealg.CountString", "internal/bytealg.IndexByteString", "internal/bytealg.IndexString"], unfollowed := true, recurses := true, named := ["internal/bytealg.MaxLen", "unicode/utf8.first", "unicode/utf8.acceptRanges"], apart := false, laid := [("unicode/utf8.acceptRanges", laid_unicode_utf8_acceptRanges), ("unicode/utf8.first", laid_unicode_utf8_first)], narrowed := true }
def ShowTextsUptoSaid : Prop := showTextsUptoRow.holds Tryd.pinned (OpenSpec.upto showTextsSpec)

end Rows
end Go.Proofs.YtgpabkdmagifjaaDoor
