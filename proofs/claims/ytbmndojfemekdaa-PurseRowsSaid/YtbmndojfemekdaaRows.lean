/-
  No cell of these rows narrows 'for every input' (looked for: loops, veiled, ifaces, maps, wideKeys, modest, calm, conditions, laid).
  DERIVED. THE GIVEN ROWS OF THIS SEAT. 5 by the template 'for every input the law returns true; each argument reads behind the call as it read before'; 0 by the template 'total and deterministic' (their statements: YtbmndojfemekdaaTotals.lean).
  GIVEN WITH THE SEED: the statements are not yours to turn. If you find one false, say at which input.
  Laid BY PROGRAM, IN A SANDBOX (cutbox-rows.mjs): the forced cells as the released guide's own fill.sh prints them over the translation a5a3848b418925dd… (all of the seat's roots in one cut). By AI agents, Wed Nov 11 2026. No macro, syntax, notation, axiom, sorry.
-/
import Derived.Test.YtbmndojfemekdaaChecked
import GoSem.Claim
import GoSem.ClaimJoined
import GoSem.ClaimMapViews
import Derived.JoinedTies
import Derived.KernelRfl
namespace Go.Proofs.Ytbmndojfemekdaa
/- THE CELL 'sum', in the pinned program and in every row, IS THE sha256 OF THE DUMP (.gsa) THAT YtbmndojfemekdaaProg.lean LOADS. Nothing in Lean hashes anything: it is a label: what it is worth is what the hold of that sum in a sandbox is worth. -/
noncomputable def Try.pinned : Pinned := { name := "ytbmndojfemekdaa", sum := "a5a3848b418925dde1ee7845f28c7a90072d6b655a961767a175c49473be2ff2", checked := Try.checked }
namespace Rows
def none {H : Type} : Left H := { results := [], args := [] }

/-- 'warplaw06.PurseAll': WHATEVER THE INPUT: true; the input reads as it did. -/
def purseAllSpec : ChangeSpec := { name := "purseAll", fn := fun _ => fun
  | [d1, d2] => { results := [.lit (.bool true)], args := [d1, d2] }
  | _ => none }
def purseAllRow : OpenClaim := { program := "ytbmndojfemekdaa", sum := "a5a3848b418925dde1ee7845f28c7a90072d6b655a961767a175c49473be2ff2", func := "warp/warplaw06.PurseAll", spec := "purseAll", apart := false }
def PurseAllSaid : Prop := purseAllRow.holds Try.pinned (OpenSpec.ofChange purseAllSpec)

/-- ITS FALSE NEIGHBOUR: 'it returns false'. Refute it at one input. -/
def purseAllWrong : ChangeSpec := { name := "purseAll", fn := fun _ => fun
  | [d1, d2] => { results := [.lit (.bool false)], args := [d1, d2] }
  | _ => none }
def PurseAllWrongFalsely : Prop := purseAllRow.holds Try.pinned (OpenSpec.ofChange purseAllWrong)

/-- 'warplaw06.PursePlays': WHATEVER THE INPUT: true; the input reads as it did. -/
def pursePlaysSpec : ChangeSpec := { name := "pursePlays", fn := fun _ => fun
  | [d1, d2] => { results := [.lit (.bool true)], args := [d1, d2] }
  | _ => none }
def pursePlaysRow : OpenClaim := { program := "ytbmndojfemekdaa", sum := "a5a3848b418925dde1ee7845f28c7a90072d6b655a961767a175c49473be2ff2", func := "warp/warplaw06.PursePlays", spec := "pursePlays", apart := false }
def PursePlaysSaid : Prop := pursePlaysRow.holds Try.pinned (OpenSpec.ofChange pursePlaysSpec)

/-- ITS FALSE NEIGHBOUR: 'it returns false'. Refute it at one input. -/
def pursePlaysWrong : ChangeSpec := { name := "pursePlays", fn := fun _ => fun
  | [d1, d2] => { results := [.lit (.bool false)], args := [d1, d2] }
  | _ => none }
def PursePlaysWrongFalsely : Prop := pursePlaysRow.holds Try.pinned (OpenSpec.ofChange pursePlaysWrong)

/-- 'warplaw06.PurseNever': WHATEVER THE INPUT: true; the input reads as it did. -/
def purseNeverSpec : ChangeSpec := { name := "purseNever", fn := fun _ => fun
  | [d1, d2] => { results := [.lit (.bool true)], args := [d1, d2] }
  | _ => none }
def purseNeverRow : OpenClaim := { program := "ytbmndojfemekdaa", sum := "a5a3848b418925dde1ee7845f28c7a90072d6b655a961767a175c49473be2ff2", func := "warp/warplaw06.PurseNever", spec := "purseNever", apart := false }
def PurseNeverSaid : Prop := purseNeverRow.holds Try.pinned (OpenSpec.ofChange purseNeverSpec)

/-- ITS FALSE NEIGHBOUR: 'it returns false'. Refute it at one input. -/
def purseNeverWrong : ChangeSpec := { name := "purseNever", fn := fun _ => fun
  | [d1, d2] => { results := [.lit (.bool false)], args := [d1, d2] }
  | _ => none }
def PurseNeverWrongFalsely : Prop := purseNeverRow.holds Try.pinned (OpenSpec.ofChange purseNeverWrong)

/-- 'warplaw06.PurseNil': WHATEVER THE INPUT: true; the input reads as it did. -/
def purseNilSpec : ChangeSpec := { name := "purseNil", fn := fun _ => fun
  | [d] => { results := [.lit (.bool true)], args := [d] }
  | _ => none }
def purseNilRow : OpenClaim := { program := "ytbmndojfemekdaa", sum := "a5a3848b418925dde1ee7845f28c7a90072d6b655a961767a175c49473be2ff2", func := "warp/warplaw06.PurseNil", spec := "purseNil", apart := false }
def PurseNilSaid : Prop := purseNilRow.holds Try.pinned (OpenSpec.ofChange purseNilSpec)

/-- ITS FALSE NEIGHBOUR: 'it returns false'. Refute it at one input. -/
def purseNilWrong : ChangeSpec := { name := "purseNil", fn := fun _ => fun
  | [d] => { results := [.lit (.bool false)], args := [d] }
  | _ => none }
def PurseNilWrongFalsely : Prop := purseNilRow.holds Try.pinned (OpenSpec.ofChange purseNilWrong)

/-- 'warplaw06.PurseRows': WHATEVER THE INPUT: true; the input reads as it did. -/
def purseRowsSpec : ChangeSpec := { name := "purseRows", fn := fun _ => fun
  | [d] => { results := [.lit (.bool true)], args := [d] }
  | _ => none }
def purseRowsRow : OpenClaim := { program := "ytbmndojfemekdaa", sum := "a5a3848b418925dde1ee7845f28c7a90072d6b655a961767a175c49473be2ff2", func := "warp/warplaw06.PurseRows", spec := "purseRows", apart := false }
def PurseRowsSaid : Prop := purseRowsRow.holds Try.pinned (OpenSpec.ofChange purseRowsSpec)

/-- ITS FALSE NEIGHBOUR: 'it returns false'. Refute it at one input. -/
def purseRowsWrong : ChangeSpec := { name := "purseRows", fn := fun _ => fun
  | [d] => { results := [.lit (.bool false)], args := [d] }
  | _ => none }
def PurseRowsWrongFalsely : Prop := purseRowsRow.holds Try.pinned (OpenSpec.ofChange purseRowsWrong)

/- THE SECOND FORM. 'bulk': how many values and letters a reading holds, each counted each time it is reached (what is shared counts as often as it is met; a slice's spare places count too). A statement '..UptoSaid' is the law's where the arguments, and the package variables that the reading takes, are together of bulk at most 1048576: NARROWER than '..Said'. Prove '..Said' where nothing that the law and all that it calls make is longer than what came in: it says more and counts as full. Else prove '..UptoSaid'. A law counts once. -/
mutual
def uptoBulk {H : Type} : DataW H → Nat
  | .lit (.string bytes) => bytes.length + 1
  | .lit _ => 1
  | .nil => 1
  | .ptr d => uptoBulk d + 1
  | .slice elems spare => uptoBulkAll elems + uptoBulkAll spare + 1
  | .agg parts => uptoBulkAll parts + 1
  | .iface _ d => uptoBulk d + 1
  | .map entries => uptoBulkEntries entries + 1
  | .held _ => 1
def uptoBulkAll {H : Type} : List (DataW H) → Nat
  | [] => 0
  | d :: r => uptoBulk d + uptoBulkAll r
def uptoBulkEntries {H : Type} : List (Lit × DataW H) → Nat
  | [] => 0
  | x :: r => uptoBulkEntry x + uptoBulkEntries r
def uptoBulkEntry {H : Type} : Lit × DataW H → Nat
  | (.string bytes, d) => bytes.length + uptoBulk d + 1
  | (_, d) => uptoBulk d + 1
 end
def uptoSmall : (H : Type) → List (DataW H) → Bool := fun _ ds => decide (uptoBulkAll ds ≤ 1048576)
def OpenSpec.upto (s : _root_.Go.ChangeSpec) : _root_.Go.OpenSpec := { _root_.Go.OpenSpec.ofChange s with cond := some uptoSmall }

/-- 'warplaw06.PurseAll', WHERE WHAT IT READS IS OF BULK AT MOST 1048576: true; the input reads as it did. -/
def purseAllUptoRow : OpenClaim := { program := "ytbmndojfemekdaa", sum := "a5a3848b418925dde1ee7845f28c7a90072d6b655a961767a175c49473be2ff2", func := "warp/warplaw06.PurseAll", spec := "purseAll", apart := false, narrowed := true }
def PurseAllUptoSaid : Prop := purseAllUptoRow.holds Try.pinned (OpenSpec.upto purseAllSpec)

/-- 'warplaw06.PursePlays', WHERE WHAT IT READS IS OF BULK AT MOST 1048576: true; the input reads as it did. -/
def pursePlaysUptoRow : OpenClaim := { program := "ytbmndojfemekdaa", sum := "a5a3848b418925dde1ee7845f28c7a90072d6b655a961767a175c49473be2ff2", func := "warp/warplaw06.PursePlays", spec := "pursePlays", apart := false, narrowed := true }
def PursePlaysUptoSaid : Prop := pursePlaysUptoRow.holds Try.pinned (OpenSpec.upto pursePlaysSpec)

/-- 'warplaw06.PurseNever', WHERE WHAT IT READS IS OF BULK AT MOST 1048576: true; the input reads as it did. -/
def purseNeverUptoRow : OpenClaim := { program := "ytbmndojfemekdaa", sum := "a5a3848b418925dde1ee7845f28c7a90072d6b655a961767a175c49473be2ff2", func := "warp/warplaw06.PurseNever", spec := "purseNever", apart := false, narrowed := true }
def PurseNeverUptoSaid : Prop := purseNeverUptoRow.holds Try.pinned (OpenSpec.upto purseNeverSpec)

/-- 'warplaw06.PurseNil', WHERE WHAT IT READS IS OF BULK AT MOST 1048576: true; the input reads as it did. -/
def purseNilUptoRow : OpenClaim := { program := "ytbmndojfemekdaa", sum := "a5a3848b418925dde1ee7845f28c7a90072d6b655a961767a175c49473be2ff2", func := "warp/warplaw06.PurseNil", spec := "purseNil", apart := false, narrowed := true }
def PurseNilUptoSaid : Prop := purseNilUptoRow.holds Try.pinned (OpenSpec.upto purseNilSpec)

/-- 'warplaw06.PurseRows', WHERE WHAT IT READS IS OF BULK AT MOST 1048576: true; the input reads as it did. -/
def purseRowsUptoRow : OpenClaim := { program := "ytbmndojfemekdaa", sum := "a5a3848b418925dde1ee7845f28c7a90072d6b655a961767a175c49473be2ff2", func := "warp/warplaw06.PurseRows", spec := "purseRows", apart := false, narrowed := true }
def PurseRowsUptoSaid : Prop := purseRowsUptoRow.holds Try.pinned (OpenSpec.upto purseRowsSpec)

end Rows
end Go.Proofs.Ytbmndojfemekdaa
