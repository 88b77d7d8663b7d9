/-
  DERIVED. GIVEN WITH THE SEED: THE CARDS: each row of YtmmejgneelkhkaaDoorRows.lean that lists a variable, with what it lists TIED to the program's text (the seventh form; the later family's looks); each row that meets fmt, with fmt's text TOLD by the authors' own Lean function (tested against real Go, not proved from fmt's source: count such statements apart). THE CARD IS WHAT COUNTS. Prove the row's statement (the work); the ties are given (YtmmejgneelkhkaaDoorTie.lean); close each card by the builder's one call (the guide's Derived/Test/ToyasCard.lean, 'card_holds'). Laid BY PROGRAM, IN A SANDBOX (cutbox-door.mjs). By AI agents, Wed Nov 11 2026. No macro, syntax, notation, axiom, sorry.
-/
import Derived.Test.YtmmejgneelkhkaaDoorRows
import GoSem.ClaimSeven
namespace Go.Proofs.YtmmejgneelkhkaaDoor
namespace Rows

/-- THE TIED CARD OF 'culletlaw24.StreamSplits'. -/
def streamSplitsCard : Claim7 := { stood := { row := streamSplitsRow, standIns := [], harness := (true, "a5cbc861ba5405ae5fda0eb6227c68db1a75e0f886399581c8de0e35236c2130"), looks := true }, kinds := [], alts := [], laidByText := true, laidKinds := [.sentinel], laidTests := true, laidLooks := .later }
def StreamSplitsCardSaid : Prop := Claim7.holds Tryd.pinned (.plain (OpenSpec.ofChange streamSplitsSpec)) streamSplitsCard

/-- THE TIED CARD OF 'culletlaw24.StreamJoins'. -/
def streamJoinsCard : Claim7 := { stood := { row := streamJoinsRow, standIns := [], harness := (true, "a5cbc861ba5405ae5fda0eb6227c68db1a75e0f886399581c8de0e35236c2130"), looks := true }, kinds := [], alts := [], laidByText := true, laidKinds := [.sentinel], laidTests := true, laidLooks := .later }
def StreamJoinsCardSaid : Prop := Claim7.holds Tryd.pinned (.plain (OpenSpec.ofChange streamJoinsSpec)) streamJoinsCard

/-- THE SECOND FORM's CARD OF 'culletlaw24.StreamSplits'. -/
def streamSplitsUptoCard : Claim7 := { stood := { row := streamSplitsUptoRow, standIns := [], harness := (true, "a5cbc861ba5405ae5fda0eb6227c68db1a75e0f886399581c8de0e35236c2130"), looks := true }, kinds := [], alts := [], laidByText := true, laidKinds := [.sentinel], laidTests := true, laidLooks := .later }
def StreamSplitsUptoCardSaid : Prop := Claim7.holds Tryd.pinned (.plain (OpenSpec.upto streamSplitsSpec)) streamSplitsUptoCard

/-- THE SECOND FORM's CARD OF 'culletlaw24.StreamJoins'. -/
def streamJoinsUptoCard : Claim7 := { stood := { row := streamJoinsUptoRow, standIns := [], harness := (true, "a5cbc861ba5405ae5fda0eb6227c68db1a75e0f886399581c8de0e35236c2130"), looks := true }, kinds := [], alts := [], laidByText := true, laidKinds := [.sentinel], laidTests := true, laidLooks := .later }
def StreamJoinsUptoCardSaid : Prop := Claim7.holds Tryd.pinned (.plain (OpenSpec.upto streamJoinsSpec)) streamJoinsUptoCard
end Rows
end Go.Proofs.YtmmejgneelkhkaaDoor
