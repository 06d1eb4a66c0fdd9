/-
  NARROWER THAN 'FOR EVERY INPUT', by the rows' own cells (each row's printed sentence says how): LikeBegins: laid · LikeMiddle: laid · LikeMatches: laid · LikeParts: laid · LikeLetters: laid.
  DERIVED. THE GIVEN ROWS OF THIS SEAT. 5 by the template 'for every input the law returns true; each argument reads behind the call as it read before'; 0 by the template 'total and deterministic' (their statements: YtjhaebhhdgjebaaDoorTotals.lean).
  GIVEN WITH THE SEED: the statements are not yours to turn. If you find one false, say at which input.
  Laid BY PROGRAM, IN A SANDBOX (cutbox-rows.mjs): the forced cells as the released guide's own fill.sh prints them over the translation 1c0661e1bbcafef5… (all of the seat's roots in one cut). By AI agents, Wed Nov 11 2026. No macro, syntax, notation, axiom, sorry.
-/
import Derived.Test.YtjhaebhhdgjebaaDoorChecked
import GoSem.PinnedTables
import GoSem.Claim
import GoSem.ClaimJoined
import GoSem.ClaimMapViews
import Derived.JoinedTies
import Derived.KernelRfl
namespace Go.Proofs.YtjhaebhhdgjebaaDoor
/- THE CELL 'sum', in the pinned program and in every row, IS THE sha256 OF THE DUMP (.gsa) THAT YtjhaebhhdgjebaaDoorProg.lean LOADS. Nothing in Lean hashes anything: it is a label: what it is worth is what the hold of that sum in a sandbox is worth. -/
noncomputable def Tryd.pinned : Pinned := { name := "ytjhaebhhdgjebaadoor", sum := "1c0661e1bbcafef5887b5324cc2fc8bf7eeaf95275ccfd82673fd461cfee6a27", checked := Tryd.checked }
namespace Rows
def none {H : Type} : Left H := { results := [], args := [] }

/- WHAT THE LISTED PACKAGE-LEVEL VARIABLES READ AS WHEN THE CALL BEGINS. Each datum BY PROGRAM (the guide's laid-datum.mjs) off the statement by which the dump's own 'gosem.cut.vars' lays the variable. In a bare row this is a premise. The card (YtjhaebhhdgjebaaDoorCards.lean) ties it to the program's text. -/
def laid_unicode_utf8_acceptRanges {H : Type} : DataW H := .agg [.agg [.lit (.int .u8 128), .lit (.int .u8 191)], .agg [.lit (.int .u8 160), .lit (.int .u8 191)], .agg [.lit (.int .u8 128), .lit (.int .u8 159)], .agg [.lit (.int .u8 144), .lit (.int .u8 191)], .agg [.lit (.int .u8 128), .lit (.int .u8 143)], .agg [.lit (.int .u8 0), .lit (.int .u8 0)], .agg [.lit (.int .u8 0), .lit (.int .u8 0)], .agg [.lit (.int .u8 0), .lit (.int .u8 0)], .agg [.lit (.int .u8 0), .lit (.int .u8 0)], .agg [.lit (.int .u8 0), .lit (.int .u8 0)], .agg [.lit (.int .u8 0), .lit (.int .u8 0)], .agg [.lit (.int .u8 0), .lit (.int .u8 0)], .agg [.lit (.int .u8 0), .lit (.int .u8 0)], .agg [.lit (.int .u8 0), .lit (.int .u8 0)], .agg [.lit (.int .u8 0), .lit (.int .u8 0)], .agg [.lit (.int .u8 0), .lit (.int .u8 0)]]
/-- One of Go's own tables, pinned by name: the form's constant. -/
def laid_unicode_utf8_first : DataW Unit := Go.Pinned.utf8First

/-- 'warplaw03.LikeBegins': WHATEVER THE INPUT: true; the input reads as it did. -/
def likeBeginsSpec : ChangeSpec := { name := "likeBegins", fn := fun _ => fun
  | [d1, d2] => { results := [.lit (.bool true)], args := [d1, d2] }
  | _ => none }
def likeBeginsRow : OpenClaim := { program := "ytjhaebhhdgjebaadoor", sum := "1c0661e1bbcafef5887b5324cc2fc8bf7eeaf95275ccfd82673fd461cfee6a27", func := "warp/warplaw03.LikeBegins", spec := "likeBegins", inPlace := ["internal/abi.NoEscape"], named := ["unicode/utf8.first", "unicode/utf8.acceptRanges"], apart := false, laid := [("unicode/utf8.acceptRanges", laid_unicode_utf8_acceptRanges), ("unicode/utf8.first", laid_unicode_utf8_first)] }
def LikeBeginsSaid : Prop := likeBeginsRow.holds Tryd.pinned (OpenSpec.ofChange likeBeginsSpec)

/-- ITS FALSE NEIGHBOUR: 'it returns false'. Refute it at one input. -/
def likeBeginsWrong : ChangeSpec := { name := "likeBegins", fn := fun _ => fun
  | [d1, d2] => { results := [.lit (.bool false)], args := [d1, d2] }
  | _ => none }
def LikeBeginsWrongFalsely : Prop := likeBeginsRow.holds Tryd.pinned (OpenSpec.ofChange likeBeginsWrong)

/-- 'warplaw03.LikeMiddle': WHATEVER THE INPUT: true; the input reads as it did. -/
def likeMiddleSpec : ChangeSpec := { name := "likeMiddle", fn := fun _ => fun
  | [d1, d2, d3] => { results := [.lit (.bool true)], args := [d1, d2, d3] }
  | _ => none }
def likeMiddleRow : OpenClaim := { program := "ytjhaebhhdgjebaadoor", sum := "1c0661e1bbcafef5887b5324cc2fc8bf7eeaf95275ccfd82673fd461cfee6a27", func := "warp/warplaw03.LikeMiddle", spec := "likeMiddle", inPlace := ["internal/abi.NoEscape"], named := ["unicode/utf8.first", "unicode/utf8.acceptRanges"], apart := false, laid := [("unicode/utf8.acceptRanges", laid_unicode_utf8_acceptRanges), ("unicode/utf8.first", laid_unicode_utf8_first)] }
def LikeMiddleSaid : Prop := likeMiddleRow.holds Tryd.pinned (OpenSpec.ofChange likeMiddleSpec)

/-- ITS FALSE NEIGHBOUR: 'it returns false'. Refute it at one input. -/
def likeMiddleWrong : ChangeSpec := { name := "likeMiddle", fn := fun _ => fun
  | [d1, d2, d3] => { results := [.lit (.bool false)], args := [d1, d2, d3] }
  | _ => none }
def LikeMiddleWrongFalsely : Prop := likeMiddleRow.holds Tryd.pinned (OpenSpec.ofChange likeMiddleWrong)

/-- 'warplaw03.LikeMatches': WHATEVER THE INPUT: true; the input reads as it did. -/
def likeMatchesSpec : ChangeSpec := { name := "likeMatches", fn := fun _ => fun
  | [d1, d2] => { results := [.lit (.bool true)], args := [d1, d2] }
  | _ => none }
def likeMatchesRow : OpenClaim := { program := "ytjhaebhhdgjebaadoor", sum := "1c0661e1bbcafef5887b5324cc2fc8bf7eeaf95275ccfd82673fd461cfee6a27", func := "warp/warplaw03.LikeMatches", spec := "likeMatches", inPlace := ["internal/abi.NoEscape"], named := ["unicode/utf8.first", "unicode/utf8.acceptRanges"], apart := false, laid := [("unicode/utf8.acceptRanges", laid_unicode_utf8_acceptRanges), ("unicode/utf8.first", laid_unicode_utf8_first)] }
def LikeMatchesSaid : Prop := likeMatchesRow.holds Tryd.pinned (OpenSpec.ofChange likeMatchesSpec)

/-- ITS FALSE NEIGHBOUR: 'it returns false'. Refute it at one input. -/
def likeMatchesWrong : ChangeSpec := { name := "likeMatches", fn := fun _ => fun
  | [d1, d2] => { results := [.lit (.bool false)], args := [d1, d2] }
  | _ => none }
def LikeMatchesWrongFalsely : Prop := likeMatchesRow.holds Tryd.pinned (OpenSpec.ofChange likeMatchesWrong)

/-- 'warplaw03.LikeParts': WHATEVER THE INPUT: true; the input reads as it did. -/
def likePartsSpec : ChangeSpec := { name := "likeParts", fn := fun _ => fun
  | [d1, d2, d3, d4] => { results := [.lit (.bool true)], args := [d1, d2, d3, d4] }
  | _ => none }
def likePartsRow : OpenClaim := { program := "ytjhaebhhdgjebaadoor", sum := "1c0661e1bbcafef5887b5324cc2fc8bf7eeaf95275ccfd82673fd461cfee6a27", func := "warp/warplaw03.LikeParts", spec := "likeParts", inPlace := ["internal/abi.NoEscape"], named := ["unicode/utf8.first", "unicode/utf8.acceptRanges"], apart := false, laid := [("unicode/utf8.acceptRanges", laid_unicode_utf8_acceptRanges), ("unicode/utf8.first", laid_unicode_utf8_first)] }
def LikePartsSaid : Prop := likePartsRow.holds Tryd.pinned (OpenSpec.ofChange likePartsSpec)

/-- ITS FALSE NEIGHBOUR: 'it returns false'. Refute it at one input. -/
def likePartsWrong : ChangeSpec := { name := "likeParts", fn := fun _ => fun
  | [d1, d2, d3, d4] => { results := [.lit (.bool false)], args := [d1, d2, d3, d4] }
  | _ => none }
def LikePartsWrongFalsely : Prop := likePartsRow.holds Tryd.pinned (OpenSpec.ofChange likePartsWrong)

/-- 'warplaw03.LikeLetters': WHATEVER THE INPUT: true; the input reads as it did. -/
def likeLettersSpec : ChangeSpec := { name := "likeLetters", fn := fun _ => fun
  | [d] => { results := [.lit (.bool true)], args := [d] }
  | _ => none }
def likeLettersRow : OpenClaim := { program := "ytjhaebhhdgjebaadoor", sum := "1c0661e1bbcafef5887b5324cc2fc8bf7eeaf95275ccfd82673fd461cfee6a27", func := "warp/warplaw03.LikeLetters", spec := "likeLetters", inPlace := ["internal/abi.NoEscape"], named := ["unicode/utf8.first", "unicode/utf8.acceptRanges"], apart := false, laid := [("unicode/utf8.acceptRanges", laid_unicode_utf8_acceptRanges), ("unicode/utf8.first", laid_unicode_utf8_first)] }
def LikeLettersSaid : Prop := likeLettersRow.holds Tryd.pinned (OpenSpec.ofChange likeLettersSpec)

/-- ITS FALSE NEIGHBOUR: 'it returns false'. Refute it at one input. -/
def likeLettersWrong : ChangeSpec := { name := "likeLetters", fn := fun _ => fun
  | [d] => { results := [.lit (.bool false)], args := [d] }
  | _ => none }
def LikeLettersWrongFalsely : Prop := likeLettersRow.holds Tryd.pinned (OpenSpec.ofChange likeLettersWrong)

/- THE SECOND FORM. 'bulk': how many values and letters a reading holds, each counted each time it is reached (what is shared counts as often as it is met; a slice's spare places count too). A statement '..UptoSaid' is the law's where the arguments, and the package variables that the reading takes, are together of bulk at most 1048576: NARROWER than '..Said'. Prove '..Said' where nothing that the law and all that it calls make is longer than what came in: it says more and counts as full. Else prove '..UptoSaid'. A law counts once. -/
mutual
def uptoBulk {H : Type} : DataW H → Nat
  | .lit (.string bytes) => bytes.length + 1
  | .lit _ => 1
  | .nil => 1
  | .ptr d => uptoBulk d + 1
  | .slice elems spare => uptoBulkAll elems + uptoBulkAll spare + 1
  | .agg parts => uptoBulkAll parts + 1
  | .iface _ d => uptoBulk d + 1
  | .map entries => uptoBulkEntries entries + 1
  | .held _ => 1
def uptoBulkAll {H : Type} : List (DataW H) → Nat
  | [] => 0
  | d :: r => uptoBulk d + uptoBulkAll r
def uptoBulkEntries {H : Type} : List (Lit × DataW H) → Nat
  | [] => 0
  | x :: r => uptoBulkEntry x + uptoBulkEntries r
def uptoBulkEntry {H : Type} : Lit × DataW H → Nat
  | (.string bytes, d) => bytes.length + uptoBulk d + 1
  | (_, d) => uptoBulk d + 1
 end
def uptoSmall : (H : Type) → List (DataW H) → Bool := fun _ ds => decide (uptoBulkAll ds ≤ 1048576)
def OpenSpec.upto (s : _root_.Go.ChangeSpec) : _root_.Go.OpenSpec := { _root_.Go.OpenSpec.ofChange s with cond := some uptoSmall }

/-- 'warplaw03.LikeBegins', WHERE WHAT IT READS IS OF BULK AT MOST 1048576: true; the input reads as it did. -/
def likeBeginsUptoRow : OpenClaim := { program := "ytjhaebhhdgjebaadoor", sum := "1c0661e1bbcafef5887b5324cc2fc8bf7eeaf95275ccfd82673fd461cfee6a27", func := "warp/warplaw03.LikeBegins", spec := "likeBegins", inPlace := ["internal/abi.NoEscape"], named := ["unicode/utf8.first", "unicode/utf8.acceptRanges"], apart := false, laid := [("unicode/utf8.acceptRanges", laid_unicode_utf8_acceptRanges), ("unicode/utf8.first", laid_unicode_utf8_first)], narrowed := true }
def LikeBeginsUptoSaid : Prop := likeBeginsUptoRow.holds Tryd.pinned (OpenSpec.upto likeBeginsSpec)

/-- 'warplaw03.LikeMiddle', WHERE WHAT IT READS IS OF BULK AT MOST 1048576: true; the input reads as it did. -/
def likeMiddleUptoRow : OpenClaim := { program := "ytjhaebhhdgjebaadoor", sum := "1c0661e1bbcafef5887b5324cc2fc8bf7eeaf95275ccfd82673fd461cfee6a27", func := "warp/warplaw03.LikeMiddle", spec := "likeMiddle", inPlace := ["internal/abi.NoEscape"], named := ["unicode/utf8.first", "unicode/utf8.acceptRanges"], apart := false, laid := [("unicode/utf8.acceptRanges", laid_unicode_utf8_acceptRanges), ("unicode/utf8.first", laid_unicode_utf8_first)], narrowed := true }
def LikeMiddleUptoSaid : Prop := likeMiddleUptoRow.holds Tryd.pinned (OpenSpec.upto likeMiddleSpec)

/-- 'warplaw03.LikeMatches', WHERE WHAT IT READS IS OF BULK AT MOST 1048576: true; the input reads as it did. -/
def likeMatchesUptoRow : OpenClaim := { program := "ytjhaebhhdgjebaadoor", sum := "1c0661e1bbcafef5887b5324cc2fc8bf7eeaf95275ccfd82673fd461cfee6a27", func := "warp/warplaw03.LikeMatches", spec := "likeMatches", inPlace := ["internal/abi.NoEscape"], named := ["unicode/utf8.first", "unicode/utf8.acceptRanges"], apart := false, laid := [("unicode/utf8.acceptRanges", laid_unicode_utf8_acceptRanges), ("unicode/utf8.first", laid_unicode_utf8_first)], narrowed := true }
def LikeMatchesUptoSaid : Prop := likeMatchesUptoRow.holds Tryd.pinned (OpenSpec.upto likeMatchesSpec)

/-- 'warplaw03.LikeParts', WHERE WHAT IT READS IS OF BULK AT MOST 1048576: true; the input reads as it did. -/
def likePartsUptoRow : OpenClaim := { program := "ytjhaebhhdgjebaadoor", sum := "1c0661e1bbcafef5887b5324cc2fc8bf7eeaf95275ccfd82673fd461cfee6a27", func := "warp/warplaw03.LikeParts", spec := "likeParts", inPlace := ["internal/abi.NoEscape"], named := ["unicode/utf8.first", "unicode/utf8.acceptRanges"], apart := false, laid := [("unicode/utf8.acceptRanges", laid_unicode_utf8_acceptRanges), ("unicode/utf8.first", laid_unicode_utf8_first)], narrowed := true }
def LikePartsUptoSaid : Prop := likePartsUptoRow.holds Tryd.pinned (OpenSpec.upto likePartsSpec)

/-- 'warplaw03.LikeLetters', WHERE WHAT IT READS IS OF BULK AT MOST 1048576: true; the input reads as it did. -/
def likeLettersUptoRow : OpenClaim := { program := "ytjhaebhhdgjebaadoor", sum := "1c0661e1bbcafef5887b5324cc2fc8bf7eeaf95275ccfd82673fd461cfee6a27", func := "warp/warplaw03.LikeLetters", spec := "likeLetters", inPlace := ["internal/abi.NoEscape"], named := ["unicode/utf8.first", "unicode/utf8.acceptRanges"], apart := false, laid := [("unicode/utf8.acceptRanges", laid_unicode_utf8_acceptRanges), ("unicode/utf8.first", laid_unicode_utf8_first)], narrowed := true }
def LikeLettersUptoSaid : Prop := likeLettersUptoRow.holds Tryd.pinned (OpenSpec.upto likeLettersSpec)

end Rows
end Go.Proofs.YtjhaebhhdgjebaaDoor
