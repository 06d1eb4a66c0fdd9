/-
  No cell of these rows narrows 'for every input' (looked for: loops, veiled, ifaces, maps, wideKeys, modest, calm, conditions, laid).
  DERIVED. THE GIVEN ROWS OF THIS SEAT. 6 by the template 'for every input the law returns true; each argument reads behind the call as it read before'; 0 by the template 'total and deterministic' (their statements: YthhfhiiiniogdaaTotals.lean).
  GIVEN WITH THE SEED: the statements are not yours to turn. If you find one false, say at which input.
  Laid BY PROGRAM, IN A SANDBOX (cutbox-rows.mjs): the forced cells as the released guide's own fill.sh prints them over the translation ee7028638c562779… (all of the seat's roots in one cut). By AI agents, Wed Nov 11 2026. No macro, syntax, notation, axiom, sorry.
-/
import Derived.Test.YthhfhiiiniogdaaChecked
import GoSem.Claim
import GoSem.ClaimJoined
import GoSem.ClaimMapViews
import Derived.JoinedTies
import Derived.KernelRfl
namespace Go.Proofs.Ythhfhiiiniogdaa
/- THE CELL 'sum', in the pinned program and in every row, IS THE sha256 OF THE DUMP (.gsa) THAT YthhfhiiiniogdaaProg.lean LOADS. Nothing in Lean hashes anything: it is a label: what it is worth is what the hold of that sum in a sandbox is worth. -/
noncomputable def Try.pinned : Pinned := { name := "ythhfhiiiniogdaa", sum := "ee7028638c56277939a94e611b3bcb28102dfe342c6bd6b2a42e26546cd9991c", checked := Try.checked }
namespace Rows
def none {H : Type} : Left H := { results := [], args := [] }

/-- 'warplaw02.CrcOfs': WHATEVER THE INPUT: true; the input reads as it did. -/
def crcOfsSpec : ChangeSpec := { name := "crcOfs", fn := fun _ => fun
  | [d1, d2] => { results := [.lit (.bool true)], args := [d1, d2] }
  | _ => none }
def crcOfsRow : OpenClaim := { program := "ythhfhiiiniogdaa", sum := "ee7028638c56277939a94e611b3bcb28102dfe342c6bd6b2a42e26546cd9991c", func := "warp/warplaw02.CrcOfs", spec := "crcOfs", unfollowed := true, recurses := true, apart := false }
def CrcOfsSaid : Prop := crcOfsRow.holds Try.pinned (OpenSpec.ofChange crcOfsSpec)

/-- ITS FALSE NEIGHBOUR: 'it returns false'. Refute it at one input. -/
def crcOfsWrong : ChangeSpec := { name := "crcOfs", fn := fun _ => fun
  | [d1, d2] => { results := [.lit (.bool false)], args := [d1, d2] }
  | _ => none }
def CrcOfsWrongFalsely : Prop := crcOfsRow.holds Try.pinned (OpenSpec.ofChange crcOfsWrong)

/-- 'warplaw02.CrcParts': WHATEVER THE INPUT: true; the input reads as it did. -/
def crcPartsSpec : ChangeSpec := { name := "crcParts", fn := fun _ => fun
  | [d1, d2, d3] => { results := [.lit (.bool true)], args := [d1, d2, d3] }
  | _ => none }
def crcPartsRow : OpenClaim := { program := "ythhfhiiiniogdaa", sum := "ee7028638c56277939a94e611b3bcb28102dfe342c6bd6b2a42e26546cd9991c", func := "warp/warplaw02.CrcParts", spec := "crcParts", unfollowed := true, recurses := true, apart := false }
def CrcPartsSaid : Prop := crcPartsRow.holds Try.pinned (OpenSpec.ofChange crcPartsSpec)

/-- ITS FALSE NEIGHBOUR: 'it returns false'. Refute it at one input. -/
def crcPartsWrong : ChangeSpec := { name := "crcParts", fn := fun _ => fun
  | [d1, d2, d3] => { results := [.lit (.bool false)], args := [d1, d2, d3] }
  | _ => none }
def CrcPartsWrongFalsely : Prop := crcPartsRow.holds Try.pinned (OpenSpec.ofChange crcPartsWrong)

/-- 'warplaw02.CrcXors': WHATEVER THE INPUT: true; the input reads as it did. -/
def crcXorsSpec : ChangeSpec := { name := "crcXors", fn := fun _ => fun
  | [d1, d2] => { results := [.lit (.bool true)], args := [d1, d2] }
  | _ => none }
def crcXorsRow : OpenClaim := { program := "ythhfhiiiniogdaa", sum := "ee7028638c56277939a94e611b3bcb28102dfe342c6bd6b2a42e26546cd9991c", func := "warp/warplaw02.CrcXors", spec := "crcXors", unfollowed := true, recurses := true, apart := false }
def CrcXorsSaid : Prop := crcXorsRow.holds Try.pinned (OpenSpec.ofChange crcXorsSpec)

/-- ITS FALSE NEIGHBOUR: 'it returns false'. Refute it at one input. -/
def crcXorsWrong : ChangeSpec := { name := "crcXors", fn := fun _ => fun
  | [d1, d2] => { results := [.lit (.bool false)], args := [d1, d2] }
  | _ => none }
def CrcXorsWrongFalsely : Prop := crcXorsRow.holds Try.pinned (OpenSpec.ofChange crcXorsWrong)

/-- 'warplaw02.CrcSeals': WHATEVER THE INPUT: true; the input reads as it did. -/
def crcSealsSpec : ChangeSpec := { name := "crcSeals", fn := fun _ => fun
  | [d] => { results := [.lit (.bool true)], args := [d] }
  | _ => none }
def crcSealsRow : OpenClaim := { program := "ythhfhiiiniogdaa", sum := "ee7028638c56277939a94e611b3bcb28102dfe342c6bd6b2a42e26546cd9991c", func := "warp/warplaw02.CrcSeals", spec := "crcSeals", unfollowed := true, recurses := true, apart := false }
def CrcSealsSaid : Prop := crcSealsRow.holds Try.pinned (OpenSpec.ofChange crcSealsSpec)

/-- ITS FALSE NEIGHBOUR: 'it returns false'. Refute it at one input. -/
def crcSealsWrong : ChangeSpec := { name := "crcSeals", fn := fun _ => fun
  | [d] => { results := [.lit (.bool false)], args := [d] }
  | _ => none }
def CrcSealsWrongFalsely : Prop := crcSealsRow.holds Try.pinned (OpenSpec.ofChange crcSealsWrong)

/-- 'warplaw02.CrcBack': WHATEVER THE INPUT: true; the input reads as it did. -/
def crcBackSpec : ChangeSpec := { name := "crcBack", fn := fun _ => fun
  | [d1, d2] => { results := [.lit (.bool true)], args := [d1, d2] }
  | _ => none }
def crcBackRow : OpenClaim := { program := "ythhfhiiiniogdaa", sum := "ee7028638c56277939a94e611b3bcb28102dfe342c6bd6b2a42e26546cd9991c", func := "warp/warplaw02.CrcBack", spec := "crcBack", unfollowed := true, recurses := true, apart := false }
def CrcBackSaid : Prop := crcBackRow.holds Try.pinned (OpenSpec.ofChange crcBackSpec)

/-- ITS FALSE NEIGHBOUR: 'it returns false'. Refute it at one input. -/
def crcBackWrong : ChangeSpec := { name := "crcBack", fn := fun _ => fun
  | [d1, d2] => { results := [.lit (.bool false)], args := [d1, d2] }
  | _ => none }
def CrcBackWrongFalsely : Prop := crcBackRow.holds Try.pinned (OpenSpec.ofChange crcBackWrong)

/-- 'warplaw02.CrcBursts': WHATEVER THE INPUT: true; the input reads as it did. -/
def crcBurstsSpec : ChangeSpec := { name := "crcBursts", fn := fun _ => fun
  | [d1, d2, d3] => { results := [.lit (.bool true)], args := [d1, d2, d3] }
  | _ => none }
def crcBurstsRow : OpenClaim := { program := "ythhfhiiiniogdaa", sum := "ee7028638c56277939a94e611b3bcb28102dfe342c6bd6b2a42e26546cd9991c", func := "warp/warplaw02.CrcBursts", spec := "crcBursts", unfollowed := true, recurses := true, apart := false }
def CrcBurstsSaid : Prop := crcBurstsRow.holds Try.pinned (OpenSpec.ofChange crcBurstsSpec)

/-- ITS FALSE NEIGHBOUR: 'it returns false'. Refute it at one input. -/
def crcBurstsWrong : ChangeSpec := { name := "crcBursts", fn := fun _ => fun
  | [d1, d2, d3] => { results := [.lit (.bool false)], args := [d1, d2, d3] }
  | _ => none }
def CrcBurstsWrongFalsely : Prop := crcBurstsRow.holds Try.pinned (OpenSpec.ofChange crcBurstsWrong)

/- THE SECOND FORM. 'bulk': how many values and letters a reading holds, each counted each time it is reached (what is shared counts as often as it is met; a slice's spare places count too). A statement '..UptoSaid' is the law's where the arguments, and the package variables that the reading takes, are together of bulk at most 1048576: NARROWER than '..Said'. Prove '..Said' where nothing that the law and all that it calls make is longer than what came in: it says more and counts as full. Else prove '..UptoSaid'. A law counts once. -/
mutual
def uptoBulk {H : Type} : DataW H → Nat
  | .lit (.string bytes) => bytes.length + 1
  | .lit _ => 1
  | .nil => 1
  | .ptr d => uptoBulk d + 1
  | .slice elems spare => uptoBulkAll elems + uptoBulkAll spare + 1
  | .agg parts => uptoBulkAll parts + 1
  | .iface _ d => uptoBulk d + 1
  | .map entries => uptoBulkEntries entries + 1
  | .held _ => 1
def uptoBulkAll {H : Type} : List (DataW H) → Nat
  | [] => 0
  | d :: r => uptoBulk d + uptoBulkAll r
def uptoBulkEntries {H : Type} : List (Lit × DataW H) → Nat
  | [] => 0
  | x :: r => uptoBulkEntry x + uptoBulkEntries r
def uptoBulkEntry {H : Type} : Lit × DataW H → Nat
  | (.string bytes, d) => bytes.length + uptoBulk d + 1
  | (_, d) => uptoBulk d + 1
 end
def uptoSmall : (H : Type) → List (DataW H) → Bool := fun _ ds => decide (uptoBulkAll ds ≤ 1048576)
def OpenSpec.upto (s : _root_.Go.ChangeSpec) : _root_.Go.OpenSpec := { _root_.Go.OpenSpec.ofChange s with cond := some uptoSmall }

/-- 'warplaw02.CrcOfs', WHERE WHAT IT READS IS OF BULK AT MOST 1048576: true; the input reads as it did. -/
def crcOfsUptoRow : OpenClaim := { program := "ythhfhiiiniogdaa", sum := "ee7028638c56277939a94e611b3bcb28102dfe342c6bd6b2a42e26546cd9991c", func := "warp/warplaw02.CrcOfs", spec := "crcOfs", unfollowed := true, recurses := true, apart := false, narrowed := true }
def CrcOfsUptoSaid : Prop := crcOfsUptoRow.holds Try.pinned (OpenSpec.upto crcOfsSpec)

/-- 'warplaw02.CrcParts', WHERE WHAT IT READS IS OF BULK AT MOST 1048576: true; the input reads as it did. -/
def crcPartsUptoRow : OpenClaim := { program := "ythhfhiiiniogdaa", sum := "ee7028638c56277939a94e611b3bcb28102dfe342c6bd6b2a42e26546cd9991c", func := "warp/warplaw02.CrcParts", spec := "crcParts", unfollowed := true, recurses := true, apart := false, narrowed := true }
def CrcPartsUptoSaid : Prop := crcPartsUptoRow.holds Try.pinned (OpenSpec.upto crcPartsSpec)

/-- 'warplaw02.CrcXors', WHERE WHAT IT READS IS OF BULK AT MOST 1048576: true; the input reads as it did. -/
def crcXorsUptoRow : OpenClaim := { program := "ythhfhiiiniogdaa", sum := "ee7028638c56277939a94e611b3bcb28102dfe342c6bd6b2a42e26546cd9991c", func := "warp/warplaw02.CrcXors", spec := "crcXors", unfollowed := true, recurses := true, apart := false, narrowed := true }
def CrcXorsUptoSaid : Prop := crcXorsUptoRow.holds Try.pinned (OpenSpec.upto crcXorsSpec)

/-- 'warplaw02.CrcSeals', WHERE WHAT IT READS IS OF BULK AT MOST 1048576: true; the input reads as it did. -/
def crcSealsUptoRow : OpenClaim := { program := "ythhfhiiiniogdaa", sum := "ee7028638c56277939a94e611b3bcb28102dfe342c6bd6b2a42e26546cd9991c", func := "warp/warplaw02.CrcSeals", spec := "crcSeals", unfollowed := true, recurses := true, apart := false, narrowed := true }
def CrcSealsUptoSaid : Prop := crcSealsUptoRow.holds Try.pinned (OpenSpec.upto crcSealsSpec)

/-- 'warplaw02.CrcBack', WHERE WHAT IT READS IS OF BULK AT MOST 1048576: true; the input reads as it did. -/
def crcBackUptoRow : OpenClaim := { program := "ythhfhiiiniogdaa", sum := "ee7028638c56277939a94e611b3bcb28102dfe342c6bd6b2a42e26546cd9991c", func := "warp/warplaw02.CrcBack", spec := "crcBack", unfollowed := true, recurses := true, apart := false, narrowed := true }
def CrcBackUptoSaid : Prop := crcBackUptoRow.holds Try.pinned (OpenSpec.upto crcBackSpec)

/-- 'warplaw02.CrcBursts', WHERE WHAT IT READS IS OF BULK AT MOST 1048576: true; the input reads as it did. -/
def crcBurstsUptoRow : OpenClaim := { program := "ythhfhiiiniogdaa", sum := "ee7028638c56277939a94e611b3bcb28102dfe342c6bd6b2a42e26546cd9991c", func := "warp/warplaw02.CrcBursts", spec := "crcBursts", unfollowed := true, recurses := true, apart := false, narrowed := true }
def CrcBurstsUptoSaid : Prop := crcBurstsUptoRow.holds Try.pinned (OpenSpec.upto crcBurstsSpec)

end Rows
end Go.Proofs.Ythhfhiiiniogdaa
