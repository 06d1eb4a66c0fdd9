/-
  DERIVED. GIVEN WITH THE SEED: THE CARDS: each row of YtjhaebhhdgjebaaDoorRows.lean that lists a variable, with what it lists TIED to the program's text (the seventh form; the later family's looks); each row that meets fmt, with fmt's text TOLD by the authors' own Lean function (tested against real Go, not proved from fmt's source: count such statements apart). THE CARD IS WHAT COUNTS. Prove the row's statement (the work); the ties are given (YtjhaebhhdgjebaaDoorTie.lean); close each card by the builder's one call (the guide's Derived/Test/ToyasCard.lean, 'card_holds'). Laid BY PROGRAM, IN A SANDBOX (cutbox-door.mjs). By AI agents, Wed Nov 11 2026. No macro, syntax, notation, axiom, sorry.
-/
import Derived.Test.YtjhaebhhdgjebaaDoorRows
import GoSem.ClaimSeven
namespace Go.Proofs.YtjhaebhhdgjebaaDoor
namespace Rows

/-- THE TIED CARD OF 'warplaw03.LikeBegins'. -/
def likeBeginsCard : Claim7 := { stood := { row := likeBeginsRow, standIns := [], harness := (true, "00da84df254c48a58a252a9f2f70122c3fbaa1f20e7b641bca597b53c867621d"), looks := false }, kinds := [], alts := [], laidByText := true, laidKinds := [.data, .pinned], laidTests := true, laidLooks := .later }
def LikeBeginsCardSaid : Prop := Claim7.holds Tryd.pinned (.plain (OpenSpec.ofChange likeBeginsSpec)) likeBeginsCard

/-- THE TIED CARD OF 'warplaw03.LikeMiddle'. -/
def likeMiddleCard : Claim7 := { stood := { row := likeMiddleRow, standIns := [], harness := (true, "00da84df254c48a58a252a9f2f70122c3fbaa1f20e7b641bca597b53c867621d"), looks := false }, kinds := [], alts := [], laidByText := true, laidKinds := [.data, .pinned], laidTests := true, laidLooks := .later }
def LikeMiddleCardSaid : Prop := Claim7.holds Tryd.pinned (.plain (OpenSpec.ofChange likeMiddleSpec)) likeMiddleCard

/-- THE TIED CARD OF 'warplaw03.LikeMatches'. -/
def likeMatchesCard : Claim7 := { stood := { row := likeMatchesRow, standIns := [], harness := (true, "00da84df254c48a58a252a9f2f70122c3fbaa1f20e7b641bca597b53c867621d"), looks := false }, kinds := [], alts := [], laidByText := true, laidKinds := [.data, .pinned], laidTests := true, laidLooks := .later }
def LikeMatchesCardSaid : Prop := Claim7.holds Tryd.pinned (.plain (OpenSpec.ofChange likeMatchesSpec)) likeMatchesCard

/-- THE TIED CARD OF 'warplaw03.LikeParts'. -/
def likePartsCard : Claim7 := { stood := { row := likePartsRow, standIns := [], harness := (true, "00da84df254c48a58a252a9f2f70122c3fbaa1f20e7b641bca597b53c867621d"), looks := false }, kinds := [], alts := [], laidByText := true, laidKinds := [.data, .pinned], laidTests := true, laidLooks := .later }
def LikePartsCardSaid : Prop := Claim7.holds Tryd.pinned (.plain (OpenSpec.ofChange likePartsSpec)) likePartsCard

/-- THE TIED CARD OF 'warplaw03.LikeLetters'. -/
def likeLettersCard : Claim7 := { stood := { row := likeLettersRow, standIns := [], harness := (true, "00da84df254c48a58a252a9f2f70122c3fbaa1f20e7b641bca597b53c867621d"), looks := false }, kinds := [], alts := [], laidByText := true, laidKinds := [.data, .pinned], laidTests := true, laidLooks := .later }
def LikeLettersCardSaid : Prop := Claim7.holds Tryd.pinned (.plain (OpenSpec.ofChange likeLettersSpec)) likeLettersCard

/-- THE SECOND FORM's CARD OF 'warplaw03.LikeBegins'. -/
def likeBeginsUptoCard : Claim7 := { stood := { row := likeBeginsUptoRow, standIns := [], harness := (true, "00da84df254c48a58a252a9f2f70122c3fbaa1f20e7b641bca597b53c867621d"), looks := false }, kinds := [], alts := [], laidByText := true, laidKinds := [.data, .pinned], laidTests := true, laidLooks := .later }
def LikeBeginsUptoCardSaid : Prop := Claim7.holds Tryd.pinned (.plain (OpenSpec.upto likeBeginsSpec)) likeBeginsUptoCard

/-- THE SECOND FORM's CARD OF 'warplaw03.LikeMiddle'. -/
def likeMiddleUptoCard : Claim7 := { stood := { row := likeMiddleUptoRow, standIns := [], harness := (true, "00da84df254c48a58a252a9f2f70122c3fbaa1f20e7b641bca597b53c867621d"), looks := false }, kinds := [], alts := [], laidByText := true, laidKinds := [.data, .pinned], laidTests := true, laidLooks := .later }
def LikeMiddleUptoCardSaid : Prop := Claim7.holds Tryd.pinned (.plain (OpenSpec.upto likeMiddleSpec)) likeMiddleUptoCard

/-- THE SECOND FORM's CARD OF 'warplaw03.LikeMatches'. -/
def likeMatchesUptoCard : Claim7 := { stood := { row := likeMatchesUptoRow, standIns := [], harness := (true, "00da84df254c48a58a252a9f2f70122c3fbaa1f20e7b641bca597b53c867621d"), looks := false }, kinds := [], alts := [], laidByText := true, laidKinds := [.data, .pinned], laidTests := true, laidLooks := .later }
def LikeMatchesUptoCardSaid : Prop := Claim7.holds Tryd.pinned (.plain (OpenSpec.upto likeMatchesSpec)) likeMatchesUptoCard

/-- THE SECOND FORM's CARD OF 'warplaw03.LikeParts'. -/
def likePartsUptoCard : Claim7 := { stood := { row := likePartsUptoRow, standIns := [], harness := (true, "00da84df254c48a58a252a9f2f70122c3fbaa1f20e7b641bca597b53c867621d"), looks := false }, kinds := [], alts := [], laidByText := true, laidKinds := [.data, .pinned], laidTests := true, laidLooks := .later }
def LikePartsUptoCardSaid : Prop := Claim7.holds Tryd.pinned (.plain (OpenSpec.upto likePartsSpec)) likePartsUptoCard

/-- THE SECOND FORM's CARD OF 'warplaw03.LikeLetters'. -/
def likeLettersUptoCard : Claim7 := { stood := { row := likeLettersUptoRow, standIns := [], harness := (true, "00da84df254c48a58a252a9f2f70122c3fbaa1f20e7b641bca597b53c867621d"), looks := false }, kinds := [], alts := [], laidByText := true, laidKinds := [.data, .pinned], laidTests := true, laidLooks := .later }
def LikeLettersUptoCardSaid : Prop := Claim7.holds Tryd.pinned (.plain (OpenSpec.upto likeLettersSpec)) likeLettersUptoCard
end Rows
end Go.Proofs.YtjhaebhhdgjebaaDoor
