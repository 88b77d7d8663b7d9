/-
  DERIVED. GIVEN WITH THE SEED: THE CARDS: each row of YtbcjimfkdjjpjaaDoorRows.lean that lists a variable, with what it lists TIED to the program's text (the seventh form; the later family's looks); each row that meets fmt, with fmt's text TOLD by the authors' own Lean function (tested against real Go, not proved from fmt's source: count such statements apart). THE CARD IS WHAT COUNTS. Prove the row's statement (the work); the ties are given (YtbcjimfkdjjpjaaDoorTie.lean); close each card by the builder's one call (the guide's Derived/Test/ToyasCard.lean, 'card_holds'). Laid BY PROGRAM, IN A SANDBOX (cutbox-door.mjs). By AI agents, Wed Nov 11 2026. No macro, syntax, notation, axiom, sorry.
-/
import Derived.Test.YtbcjimfkdjjpjaaDoorRows
import GoSem.ClaimSeven
namespace Go.Proofs.YtbcjimfkdjjpjaaDoor
namespace Rows

/-- THE TIED CARD OF 'culletlaw25.FrameNames'. -/
def frameNamesCard : Claim7 := { stood := { row := frameNamesRow, standIns := [], harness := (true, "c45b39cf31d94e4574b18669b93a6c1b60b78b7c67d9d0827db378e434ea5e9c"), looks := false }, kinds := [], alts := [], laidByText := true, laidKinds := [.data], laidTests := true, laidLooks := .later }
def FrameNamesCardSaid : Prop := Claim7.holds Tryd.pinned (.plain (OpenSpec.ofChange frameNamesSpec)) frameNamesCard

/-- THE TIED CARD OF 'culletlaw25.FrameFiles'. -/
def frameFilesCard : Claim7 := { stood := { row := frameFilesRow, standIns := [], harness := (true, "c45b39cf31d94e4574b18669b93a6c1b60b78b7c67d9d0827db378e434ea5e9c"), looks := false }, kinds := [], alts := [], laidByText := true, laidKinds := [.data], laidTests := true, laidLooks := .later }
def FrameFilesCardSaid : Prop := Claim7.holds Tryd.pinned (.plain (OpenSpec.ofChange frameFilesSpec)) frameFilesCard

/-- THE SECOND FORM's CARD OF 'culletlaw25.FrameNames'. -/
def frameNamesUptoCard : Claim7 := { stood := { row := frameNamesUptoRow, standIns := [], harness := (true, "c45b39cf31d94e4574b18669b93a6c1b60b78b7c67d9d0827db378e434ea5e9c"), looks := false }, kinds := [], alts := [], laidByText := true, laidKinds := [.data], laidTests := true, laidLooks := .later }
def FrameNamesUptoCardSaid : Prop := Claim7.holds Tryd.pinned (.plain (OpenSpec.upto frameNamesSpec)) frameNamesUptoCard

/-- THE SECOND FORM's CARD OF 'culletlaw25.FrameFiles'. -/
def frameFilesUptoCard : Claim7 := { stood := { row := frameFilesUptoRow, standIns := [], harness := (true, "c45b39cf31d94e4574b18669b93a6c1b60b78b7c67d9d0827db378e434ea5e9c"), looks := false }, kinds := [], alts := [], laidByText := true, laidKinds := [.data], laidTests := true, laidLooks := .later }
def FrameFilesUptoCardSaid : Prop := Claim7.holds Tryd.pinned (.plain (OpenSpec.upto frameFilesSpec)) frameFilesUptoCard
end Rows
end Go.Proofs.YtbcjimfkdjjpjaaDoor
