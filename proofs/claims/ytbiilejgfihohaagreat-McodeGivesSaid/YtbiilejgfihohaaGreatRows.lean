/-
  No cell of these rows narrows 'for every input' (looked for: loops, veiled, ifaces, maps, wideKeys, modest, calm, conditions, laid).
  DERIVED. THE GIVEN ROWS OF THIS SEAT. 7 by the template 'for every input the law returns true; each argument reads behind the call as it read before'; 0 by the template 'total and deterministic' (their statements: YtbiilejgfihohaaGreatTotals.lean).
  GIVEN WITH THE SEED: the statements are not yours to turn. If you find one false, say at which input.
  Laid BY PROGRAM, IN A SANDBOX (cutbox-rows.mjs): the forced cells as the released guide's own fill.sh prints them over the translation 1d54a51b6feacda7… (all of the seat's roots in one cut). By AI agents, Wed Nov 11 2026. No macro, syntax, notation, axiom, sorry.
-/
import Derived.Test.YtbiilejgfihohaaGreatChecked
import GoSem.Claim
import GoSem.ClaimJoined
import GoSem.ClaimMapViews
import Derived.JoinedTies
import Derived.KernelRfl
namespace Go.Proofs.YtbiilejgfihohaaGreat
/- THE CELL 'sum', in the pinned program and in every row, IS THE sha256 OF THE DUMP (.gsa) THAT YtbiilejgfihohaaGreatProg.lean LOADS. Nothing in Lean hashes anything: it is a label: what it is worth is what the hold of that sum in a sandbox is worth. -/
noncomputable def Tryz.pinned : Pinned := { name := "ytbiilejgfihohaagreat", sum := "1d54a51b6feacda76eecd2219f999531fc3fe90ce9fe22b9fffef2c8a8e38d1a", checked := Tryz.checked }
namespace Rows
def none {H : Type} : Left H := { results := [], args := [] }

/-- 'culletlaw17.McodeTells': WHATEVER THE INPUT: true; the input reads as it did. -/
def mcodeTellsSpec : ChangeSpec := { name := "mcodeTells", fn := fun _ => fun
  | [d1, d2, d3, d4] => { results := [.lit (.bool true)], args := [d1, d2, d3, d4] }
  | _ => none }
def mcodeTellsRow : OpenClaim := { program := "ytbiilejgfihohaagreat", sum := "1d54a51b6feacda76eecd2219f999531fc3fe90ce9fe22b9fffef2c8a8e38d1a", func := "cullet/culletlaw17.McodeTells", spec := "mcodeTells", unfollowed := true, recurses := true, apart := false }
def McodeTellsSaid : Prop := mcodeTellsRow.holds Tryz.pinned (OpenSpec.ofChange mcodeTellsSpec)

/-- ITS FALSE NEIGHBOUR: 'it returns false'. Refute it at one input. -/
def mcodeTellsWrong : ChangeSpec := { name := "mcodeTells", fn := fun _ => fun
  | [d1, d2, d3, d4] => { results := [.lit (.bool false)], args := [d1, d2, d3, d4] }
  | _ => none }
def McodeTellsWrongFalsely : Prop := mcodeTellsRow.holds Tryz.pinned (OpenSpec.ofChange mcodeTellsWrong)

/-- 'culletlaw17.McodeTurns': WHATEVER THE INPUT: true; the input reads as it did. -/
def mcodeTurnsSpec : ChangeSpec := { name := "mcodeTurns", fn := fun _ => fun
  | [d1, d2, d3, d4] => { results := [.lit (.bool true)], args := [d1, d2, d3, d4] }
  | _ => none }
def mcodeTurnsRow : OpenClaim := { program := "ytbiilejgfihohaagreat", sum := "1d54a51b6feacda76eecd2219f999531fc3fe90ce9fe22b9fffef2c8a8e38d1a", func := "cullet/culletlaw17.McodeTurns", spec := "mcodeTurns", unfollowed := true, recurses := true, apart := false }
def McodeTurnsSaid : Prop := mcodeTurnsRow.holds Tryz.pinned (OpenSpec.ofChange mcodeTurnsSpec)

/-- ITS FALSE NEIGHBOUR: 'it returns false'. Refute it at one input. -/
def mcodeTurnsWrong : ChangeSpec := { name := "mcodeTurns", fn := fun _ => fun
  | [d1, d2, d3, d4] => { results := [.lit (.bool false)], args := [d1, d2, d3, d4] }
  | _ => none }
def McodeTurnsWrongFalsely : Prop := mcodeTurnsRow.holds Tryz.pinned (OpenSpec.ofChange mcodeTurnsWrong)

/-- 'culletlaw17.McodeBackends': WHATEVER THE INPUT: true; the input reads as it did. -/
def mcodeBackendsSpec : ChangeSpec := { name := "mcodeBackends", fn := fun _ => fun
  | [d1, d2, d3, d4] => { results := [.lit (.bool true)], args := [d1, d2, d3, d4] }
  | _ => none }
def mcodeBackendsRow : OpenClaim := { program := "ytbiilejgfihohaagreat", sum := "1d54a51b6feacda76eecd2219f999531fc3fe90ce9fe22b9fffef2c8a8e38d1a", func := "cullet/culletlaw17.McodeBackends", spec := "mcodeBackends", unfollowed := true, recurses := true, apart := false }
def McodeBackendsSaid : Prop := mcodeBackendsRow.holds Tryz.pinned (OpenSpec.ofChange mcodeBackendsSpec)

/-- ITS FALSE NEIGHBOUR: 'it returns false'. Refute it at one input. -/
def mcodeBackendsWrong : ChangeSpec := { name := "mcodeBackends", fn := fun _ => fun
  | [d1, d2, d3, d4] => { results := [.lit (.bool false)], args := [d1, d2, d3, d4] }
  | _ => none }
def McodeBackendsWrongFalsely : Prop := mcodeBackendsRow.holds Tryz.pinned (OpenSpec.ofChange mcodeBackendsWrong)

/-- 'culletlaw17.McodeLists': WHATEVER THE INPUT: true; the input reads as it did. -/
def mcodeListsSpec : ChangeSpec := { name := "mcodeLists", fn := fun _ => fun
  | [d1, d2] => { results := [.lit (.bool true)], args := [d1, d2] }
  | _ => none }
def mcodeListsRow : OpenClaim := { program := "ytbiilejgfihohaagreat", sum := "1d54a51b6feacda76eecd2219f999531fc3fe90ce9fe22b9fffef2c8a8e38d1a", func := "cullet/culletlaw17.McodeLists", spec := "mcodeLists", unfollowed := true, recurses := true, apart := false }
def McodeListsSaid : Prop := mcodeListsRow.holds Tryz.pinned (OpenSpec.ofChange mcodeListsSpec)

/-- ITS FALSE NEIGHBOUR: 'it returns false'. Refute it at one input. -/
def mcodeListsWrong : ChangeSpec := { name := "mcodeLists", fn := fun _ => fun
  | [d1, d2] => { results := [.lit (.bool false)], args := [d1, d2] }
  | _ => none }
def McodeListsWrongFalsely : Prop := mcodeListsRow.holds Tryz.pinned (OpenSpec.ofChange mcodeListsWrong)

/-- 'culletlaw17.McodeBack': WHATEVER THE INPUT: true; the input reads as it did. -/
def mcodeBackSpec : ChangeSpec := { name := "mcodeBack", fn := fun _ => fun
  | [d1, d2, d3] => { results := [.lit (.bool true)], args := [d1, d2, d3] }
  | _ => none }
def mcodeBackRow : OpenClaim := { program := "ytbiilejgfihohaagreat", sum := "1d54a51b6feacda76eecd2219f999531fc3fe90ce9fe22b9fffef2c8a8e38d1a", func := "cullet/culletlaw17.McodeBack", spec := "mcodeBack", unfollowed := true, recurses := true, apart := false }
def McodeBackSaid : Prop := mcodeBackRow.holds Tryz.pinned (OpenSpec.ofChange mcodeBackSpec)

/-- ITS FALSE NEIGHBOUR: 'it returns false'. Refute it at one input. -/
def mcodeBackWrong : ChangeSpec := { name := "mcodeBack", fn := fun _ => fun
  | [d1, d2, d3] => { results := [.lit (.bool false)], args := [d1, d2, d3] }
  | _ => none }
def McodeBackWrongFalsely : Prop := mcodeBackRow.holds Tryz.pinned (OpenSpec.ofChange mcodeBackWrong)

/-- 'culletlaw17.McodeSpans': WHATEVER THE INPUT: true; the input reads as it did. -/
def mcodeSpansSpec : ChangeSpec := { name := "mcodeSpans", fn := fun _ => fun
  | [d1, d2, d3, d4] => { results := [.lit (.bool true)], args := [d1, d2, d3, d4] }
  | _ => none }
def mcodeSpansRow : OpenClaim := { program := "ytbiilejgfihohaagreat", sum := "1d54a51b6feacda76eecd2219f999531fc3fe90ce9fe22b9fffef2c8a8e38d1a", func := "cullet/culletlaw17.McodeSpans", spec := "mcodeSpans", unfollowed := true, recurses := true, apart := false }
def McodeSpansSaid : Prop := mcodeSpansRow.holds Tryz.pinned (OpenSpec.ofChange mcodeSpansSpec)

/-- ITS FALSE NEIGHBOUR: 'it returns false'. Refute it at one input. -/
def mcodeSpansWrong : ChangeSpec := { name := "mcodeSpans", fn := fun _ => fun
  | [d1, d2, d3, d4] => { results := [.lit (.bool false)], args := [d1, d2, d3, d4] }
  | _ => none }
def McodeSpansWrongFalsely : Prop := mcodeSpansRow.holds Tryz.pinned (OpenSpec.ofChange mcodeSpansWrong)

/-- 'culletlaw17.McodeGives': WHATEVER THE INPUT: true; the input reads as it did. -/
def mcodeGivesSpec : ChangeSpec := { name := "mcodeGives", fn := fun _ => fun
  | [d1, d2] => { results := [.lit (.bool true)], args := [d1, d2] }
  | _ => none }
def mcodeGivesRow : OpenClaim := { program := "ytbiilejgfihohaagreat", sum := "1d54a51b6feacda76eecd2219f999531fc3fe90ce9fe22b9fffef2c8a8e38d1a", func := "cullet/culletlaw17.McodeGives", spec := "mcodeGives", unfollowed := true, recurses := true, apart := false }
def McodeGivesSaid : Prop := mcodeGivesRow.holds Tryz.pinned (OpenSpec.ofChange mcodeGivesSpec)

/-- ITS FALSE NEIGHBOUR: 'it returns false'. Refute it at one input. -/
def mcodeGivesWrong : ChangeSpec := { name := "mcodeGives", fn := fun _ => fun
  | [d1, d2] => { results := [.lit (.bool false)], args := [d1, d2] }
  | _ => none }
def McodeGivesWrongFalsely : Prop := mcodeGivesRow.holds Tryz.pinned (OpenSpec.ofChange mcodeGivesWrong)

/- THE SECOND FORM. 'bulk': how many values and letters a reading holds, each counted each time it is reached (what is shared counts as often as it is met; a slice's spare places count too). A statement '..UptoSaid' is the law's where the arguments, and the package variables that the reading takes, are together of bulk at most 1048576: NARROWER than '..Said'. Prove '..Said' where nothing that the law and all that it calls make is longer than what came in: it says more and counts as full. Else prove '..UptoSaid'. A law counts once. -/
mutual
def uptoBulk {H : Type} : DataW H → Nat
  | .lit (.string bytes) => bytes.length + 1
  | .lit _ => 1
  | .nil => 1
  | .ptr d => uptoBulk d + 1
  | .slice elems spare => uptoBulkAll elems + uptoBulkAll spare + 1
  | .agg parts => uptoBulkAll parts + 1
  | .iface _ d => uptoBulk d + 1
  | .map entries => uptoBulkEntries entries + 1
  | .held _ => 1
def uptoBulkAll {H : Type} : List (DataW H) → Nat
  | [] => 0
  | d :: r => uptoBulk d + uptoBulkAll r
def uptoBulkEntries {H : Type} : List (Lit × DataW H) → Nat
  | [] => 0
  | x :: r => uptoBulkEntry x + uptoBulkEntries r
def uptoBulkEntry {H : Type} : Lit × DataW H → Nat
  | (.string bytes, d) => bytes.length + uptoBulk d + 1
  | (_, d) => uptoBulk d + 1
 end
def uptoSmall : (H : Type) → List (DataW H) → Bool := fun _ ds => decide (uptoBulkAll ds ≤ 1048576)
def OpenSpec.upto (s : _root_.Go.ChangeSpec) : _root_.Go.OpenSpec := { _root_.Go.OpenSpec.ofChange s with cond := some uptoSmall }

/-- 'culletlaw17.McodeTells', WHERE WHAT IT READS IS OF BULK AT MOST 1048576: true; the input reads as it did. -/
def mcodeTellsUptoRow : OpenClaim := { program := "ytbiilejgfihohaagreat", sum := "1d54a51b6feacda76eecd2219f999531fc3fe90ce9fe22b9fffef2c8a8e38d1a", func := "cullet/culletlaw17.McodeTells", spec := "mcodeTells", unfollowed := true, recurses := true, apart := false, narrowed := true }
def McodeTellsUptoSaid : Prop := mcodeTellsUptoRow.holds Tryz.pinned (OpenSpec.upto mcodeTellsSpec)

/-- 'culletlaw17.McodeTurns', WHERE WHAT IT READS IS OF BULK AT MOST 1048576: true; the input reads as it did. -/
def mcodeTurnsUptoRow : OpenClaim := { program := "ytbiilejgfihohaagreat", sum := "1d54a51b6feacda76eecd2219f999531fc3fe90ce9fe22b9fffef2c8a8e38d1a", func := "cullet/culletlaw17.McodeTurns", spec := "mcodeTurns", unfollowed := true, recurses := true, apart := false, narrowed := true }
def McodeTurnsUptoSaid : Prop := mcodeTurnsUptoRow.holds Tryz.pinned (OpenSpec.upto mcodeTurnsSpec)

/-- 'culletlaw17.McodeBackends', WHERE WHAT IT READS IS OF BULK AT MOST 1048576: true; the input reads as it did. -/
def mcodeBackendsUptoRow : OpenClaim := { program := "ytbiilejgfihohaagreat", sum := "1d54a51b6feacda76eecd2219f999531fc3fe90ce9fe22b9fffef2c8a8e38d1a", func := "cullet/culletlaw17.McodeBackends", spec := "mcodeBackends", unfollowed := true, recurses := true, apart := false, narrowed := true }
def McodeBackendsUptoSaid : Prop := mcodeBackendsUptoRow.holds Tryz.pinned (OpenSpec.upto mcodeBackendsSpec)

/-- 'culletlaw17.McodeLists', WHERE WHAT IT READS IS OF BULK AT MOST 1048576: true; the input reads as it did. -/
def mcodeListsUptoRow : OpenClaim := { program := "ytbiilejgfihohaagreat", sum := "1d54a51b6feacda76eecd2219f999531fc3fe90ce9fe22b9fffef2c8a8e38d1a", func := "cullet/culletlaw17.McodeLists", spec := "mcodeLists", unfollowed := true, recurses := true, apart := false, narrowed := true }
def McodeListsUptoSaid : Prop := mcodeListsUptoRow.holds Tryz.pinned (OpenSpec.upto mcodeListsSpec)

/-- 'culletlaw17.McodeBack', WHERE WHAT IT READS IS OF BULK AT MOST 1048576: true; the input reads as it did. -/
def mcodeBackUptoRow : OpenClaim := { program := "ytbiilejgfihohaagreat", sum := "1d54a51b6feacda76eecd2219f999531fc3fe90ce9fe22b9fffef2c8a8e38d1a", func := "cullet/culletlaw17.McodeBack", spec := "mcodeBack", unfollowed := true, recurses := true, apart := false, narrowed := true }
def McodeBackUptoSaid : Prop := mcodeBackUptoRow.holds Tryz.pinned (OpenSpec.upto mcodeBackSpec)

/-- 'culletlaw17.McodeSpans', WHERE WHAT IT READS IS OF BULK AT MOST 1048576: true; the input reads as it did. -/
def mcodeSpansUptoRow : OpenClaim := { program := "ytbiilejgfihohaagreat", sum := "1d54a51b6feacda76eecd2219f999531fc3fe90ce9fe22b9fffef2c8a8e38d1a", func := "cullet/culletlaw17.McodeSpans", spec := "mcodeSpans", unfollowed := true, recurses := true, apart := false, narrowed := true }
def McodeSpansUptoSaid : Prop := mcodeSpansUptoRow.holds Tryz.pinned (OpenSpec.upto mcodeSpansSpec)

/-- 'culletlaw17.McodeGives', WHERE WHAT IT READS IS OF BULK AT MOST 1048576: true; the input reads as it did. -/
def mcodeGivesUptoRow : OpenClaim := { program := "ytbiilejgfihohaagreat", sum := "1d54a51b6feacda76eecd2219f999531fc3fe90ce9fe22b9fffef2c8a8e38d1a", func := "cullet/culletlaw17.McodeGives", spec := "mcodeGives", unfollowed := true, recurses := true, apart := false, narrowed := true }
def McodeGivesUptoSaid : Prop := mcodeGivesUptoRow.holds Tryz.pinned (OpenSpec.upto mcodeGivesSpec)

end Rows
end Go.Proofs.YtbiilejgfihohaaGreat
