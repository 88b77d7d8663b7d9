/-
  No cell of these rows narrows 'for every input' (looked for: loops, veiled, ifaces, maps, wideKeys, modest, calm, conditions, laid).
  DERIVED. THE GIVEN ROWS OF THIS SEAT. 8 by the template 'for every input the law returns true; each argument reads behind the call as it read before'; 0 by the template 'total and deterministic' (their statements: YtdnlnloogfnlgaaTotals.lean).
  GIVEN WITH THE SEED: the statements are not yours to turn. If you find one false, say at which input.
  Laid BY PROGRAM, IN A SANDBOX (cutbox-rows.mjs): the forced cells as the released guide's own fill.sh prints them over the translation 9b606ac0a03359e8… (all of the seat's roots in one cut). By AI agents, Wed Nov 11 2026. No macro, syntax, notation, axiom, sorry.
-/
import Derived.Test.YtdnlnloogfnlgaaChecked
import GoSem.Claim
import GoSem.ClaimJoined
import GoSem.ClaimMapViews
import Derived.JoinedTies
import Derived.KernelRfl
namespace Go.Proofs.Ytdnlnloogfnlgaa
/- THE CELL 'sum', in the pinned program and in every row, IS THE sha256 OF THE DUMP (.gsa) THAT YtdnlnloogfnlgaaProg.lean LOADS. Nothing in Lean hashes anything: it is a label: what it is worth is what the hold of that sum in a sandbox is worth. -/
noncomputable def Try.pinned : Pinned := { name := "ytdnlnloogfnlgaa", sum := "9b606ac0a03359e81c446343d94fffe51911d94e9462f0f74597276e36856e83", checked := Try.checked }
namespace Rows
def none {H : Type} : Left H := { results := [], args := [] }

/-- 'culletlaw12.TrieFinds': WHATEVER THE INPUT: true; the input reads as it did. -/
def trieFindsSpec : ChangeSpec := { name := "trieFinds", fn := fun _ => fun
  | [d1, d2] => { results := [.lit (.bool true)], args := [d1, d2] }
  | _ => none }
def trieFindsRow : OpenClaim := { program := "ytdnlnloogfnlgaa", sum := "9b606ac0a03359e81c446343d94fffe51911d94e9462f0f74597276e36856e83", func := "cullet/culletlaw12.TrieFinds", spec := "trieFinds", unfollowed := true, recurses := true, apart := false }
def TrieFindsSaid : Prop := trieFindsRow.holds Try.pinned (OpenSpec.ofChange trieFindsSpec)

/-- ITS FALSE NEIGHBOUR: 'it returns false'. Refute it at one input. -/
def trieFindsWrong : ChangeSpec := { name := "trieFinds", fn := fun _ => fun
  | [d1, d2] => { results := [.lit (.bool false)], args := [d1, d2] }
  | _ => none }
def TrieFindsWrongFalsely : Prop := trieFindsRow.holds Try.pinned (OpenSpec.ofChange trieFindsWrong)

/-- 'culletlaw12.TrieEldest': WHATEVER THE INPUT: true; the input reads as it did. -/
def trieEldestSpec : ChangeSpec := { name := "trieEldest", fn := fun _ => fun
  | [d1, d2] => { results := [.lit (.bool true)], args := [d1, d2] }
  | _ => none }
def trieEldestRow : OpenClaim := { program := "ytdnlnloogfnlgaa", sum := "9b606ac0a03359e81c446343d94fffe51911d94e9462f0f74597276e36856e83", func := "cullet/culletlaw12.TrieEldest", spec := "trieEldest", unfollowed := true, recurses := true, apart := false }
def TrieEldestSaid : Prop := trieEldestRow.holds Try.pinned (OpenSpec.ofChange trieEldestSpec)

/-- ITS FALSE NEIGHBOUR: 'it returns false'. Refute it at one input. -/
def trieEldestWrong : ChangeSpec := { name := "trieEldest", fn := fun _ => fun
  | [d1, d2] => { results := [.lit (.bool false)], args := [d1, d2] }
  | _ => none }
def TrieEldestWrongFalsely : Prop := trieEldestRow.holds Try.pinned (OpenSpec.ofChange trieEldestWrong)

/-- 'culletlaw12.TrieMemory': WHATEVER THE INPUT: true; the input reads as it did. -/
def trieMemorySpec : ChangeSpec := { name := "trieMemory", fn := fun _ => fun
  | [d1, d2] => { results := [.lit (.bool true)], args := [d1, d2] }
  | _ => none }
def trieMemoryRow : OpenClaim := { program := "ytdnlnloogfnlgaa", sum := "9b606ac0a03359e81c446343d94fffe51911d94e9462f0f74597276e36856e83", func := "cullet/culletlaw12.TrieMemory", spec := "trieMemory", unfollowed := true, recurses := true, apart := false }
def TrieMemorySaid : Prop := trieMemoryRow.holds Try.pinned (OpenSpec.ofChange trieMemorySpec)

/-- ITS FALSE NEIGHBOUR: 'it returns false'. Refute it at one input. -/
def trieMemoryWrong : ChangeSpec := { name := "trieMemory", fn := fun _ => fun
  | [d1, d2] => { results := [.lit (.bool false)], args := [d1, d2] }
  | _ => none }
def TrieMemoryWrongFalsely : Prop := trieMemoryRow.holds Try.pinned (OpenSpec.ofChange trieMemoryWrong)

/-- 'culletlaw12.TrieKeysMemory': WHATEVER THE INPUT: true; the input reads as it did. -/
def trieKeysMemorySpec : ChangeSpec := { name := "trieKeysMemory", fn := fun _ => fun
  | [d1, d2] => { results := [.lit (.bool true)], args := [d1, d2] }
  | _ => none }
def trieKeysMemoryRow : OpenClaim := { program := "ytdnlnloogfnlgaa", sum := "9b606ac0a03359e81c446343d94fffe51911d94e9462f0f74597276e36856e83", func := "cullet/culletlaw12.TrieKeysMemory", spec := "trieKeysMemory", unfollowed := true, recurses := true, apart := false }
def TrieKeysMemorySaid : Prop := trieKeysMemoryRow.holds Try.pinned (OpenSpec.ofChange trieKeysMemorySpec)

/-- ITS FALSE NEIGHBOUR: 'it returns false'. Refute it at one input. -/
def trieKeysMemoryWrong : ChangeSpec := { name := "trieKeysMemory", fn := fun _ => fun
  | [d1, d2] => { results := [.lit (.bool false)], args := [d1, d2] }
  | _ => none }
def TrieKeysMemoryWrongFalsely : Prop := trieKeysMemoryRow.holds Try.pinned (OpenSpec.ofChange trieKeysMemoryWrong)

/-- 'culletlaw12.TrieNew': WHATEVER THE INPUT: true; the input reads as it did. -/
def trieNewSpec : ChangeSpec := { name := "trieNew", fn := fun _ => fun
  | [d1, d2, d3] => { results := [.lit (.bool true)], args := [d1, d2, d3] }
  | _ => none }
def trieNewRow : OpenClaim := { program := "ytdnlnloogfnlgaa", sum := "9b606ac0a03359e81c446343d94fffe51911d94e9462f0f74597276e36856e83", func := "cullet/culletlaw12.TrieNew", spec := "trieNew", unfollowed := true, recurses := true, apart := false }
def TrieNewSaid : Prop := trieNewRow.holds Try.pinned (OpenSpec.ofChange trieNewSpec)

/-- ITS FALSE NEIGHBOUR: 'it returns false'. Refute it at one input. -/
def trieNewWrong : ChangeSpec := { name := "trieNew", fn := fun _ => fun
  | [d1, d2, d3] => { results := [.lit (.bool false)], args := [d1, d2, d3] }
  | _ => none }
def TrieNewWrongFalsely : Prop := trieNewRow.holds Try.pinned (OpenSpec.ofChange trieNewWrong)

/-- 'culletlaw12.TriePlays': WHATEVER THE INPUT: true; the input reads as it did. -/
def triePlaysSpec : ChangeSpec := { name := "triePlays", fn := fun _ => fun
  | [d1, d2, d3] => { results := [.lit (.bool true)], args := [d1, d2, d3] }
  | _ => none }
def triePlaysRow : OpenClaim := { program := "ytdnlnloogfnlgaa", sum := "9b606ac0a03359e81c446343d94fffe51911d94e9462f0f74597276e36856e83", func := "cullet/culletlaw12.TriePlays", spec := "triePlays", unfollowed := true, recurses := true, apart := false }
def TriePlaysSaid : Prop := triePlaysRow.holds Try.pinned (OpenSpec.ofChange triePlaysSpec)

/-- ITS FALSE NEIGHBOUR: 'it returns false'. Refute it at one input. -/
def triePlaysWrong : ChangeSpec := { name := "triePlays", fn := fun _ => fun
  | [d1, d2, d3] => { results := [.lit (.bool false)], args := [d1, d2, d3] }
  | _ => none }
def TriePlaysWrongFalsely : Prop := triePlaysRow.holds Try.pinned (OpenSpec.ofChange triePlaysWrong)

/-- 'culletlaw12.TrieViews': WHATEVER THE INPUT: true; the input reads as it did. -/
def trieViewsSpec : ChangeSpec := { name := "trieViews", fn := fun _ => fun
  | [d1, d2] => { results := [.lit (.bool true)], args := [d1, d2] }
  | _ => none }
def trieViewsRow : OpenClaim := { program := "ytdnlnloogfnlgaa", sum := "9b606ac0a03359e81c446343d94fffe51911d94e9462f0f74597276e36856e83", func := "cullet/culletlaw12.TrieViews", spec := "trieViews", unfollowed := true, recurses := true, apart := false }
def TrieViewsSaid : Prop := trieViewsRow.holds Try.pinned (OpenSpec.ofChange trieViewsSpec)

/-- ITS FALSE NEIGHBOUR: 'it returns false'. Refute it at one input. -/
def trieViewsWrong : ChangeSpec := { name := "trieViews", fn := fun _ => fun
  | [d1, d2] => { results := [.lit (.bool false)], args := [d1, d2] }
  | _ => none }
def TrieViewsWrongFalsely : Prop := trieViewsRow.holds Try.pinned (OpenSpec.ofChange trieViewsWrong)

/-- 'culletlaw12.TrieWalks': WHATEVER THE INPUT: true; the input reads as it did. -/
def trieWalksSpec : ChangeSpec := { name := "trieWalks", fn := fun _ => fun
  | [d1, d2, d3] => { results := [.lit (.bool true)], args := [d1, d2, d3] }
  | _ => none }
def trieWalksRow : OpenClaim := { program := "ytdnlnloogfnlgaa", sum := "9b606ac0a03359e81c446343d94fffe51911d94e9462f0f74597276e36856e83", func := "cullet/culletlaw12.TrieWalks", spec := "trieWalks", unfollowed := true, recurses := true, apart := false }
def TrieWalksSaid : Prop := trieWalksRow.holds Try.pinned (OpenSpec.ofChange trieWalksSpec)

/-- ITS FALSE NEIGHBOUR: 'it returns false'. Refute it at one input. -/
def trieWalksWrong : ChangeSpec := { name := "trieWalks", fn := fun _ => fun
  | [d1, d2, d3] => { results := [.lit (.bool false)], args := [d1, d2, d3] }
  | _ => none }
def TrieWalksWrongFalsely : Prop := trieWalksRow.holds Try.pinned (OpenSpec.ofChange trieWalksWrong)

/- THE SECOND FORM. 'bulk': how many values and letters a reading holds, each counted each time it is reached (what is shared counts as often as it is met; a slice's spare places count too). A statement '..UptoSaid' is the law's where the arguments, and the package variables that the reading takes, are together of bulk at most 1048576: NARROWER than '..Said'. Prove '..Said' where nothing that the law and all that it calls make is longer than what came in: it says more and counts as full. Else prove '..UptoSaid'. A law counts once. -/
mutual
def uptoBulk {H : Type} : DataW H → Nat
  | .lit (.string bytes) => bytes.length + 1
  | .lit _ => 1
  | .nil => 1
  | .ptr d => uptoBulk d + 1
  | .slice elems spare => uptoBulkAll elems + uptoBulkAll spare + 1
  | .agg parts => uptoBulkAll parts + 1
  | .iface _ d => uptoBulk d + 1
  | .map entries => uptoBulkEntries entries + 1
  | .held _ => 1
def uptoBulkAll {H : Type} : List (DataW H) → Nat
  | [] => 0
  | d :: r => uptoBulk d + uptoBulkAll r
def uptoBulkEntries {H : Type} : List (Lit × DataW H) → Nat
  | [] => 0
  | x :: r => uptoBulkEntry x + uptoBulkEntries r
def uptoBulkEntry {H : Type} : Lit × DataW H → Nat
  | (.string bytes, d) => bytes.length + uptoBulk d + 1
  | (_, d) => uptoBulk d + 1
 end
def uptoSmall : (H : Type) → List (DataW H) → Bool := fun _ ds => decide (uptoBulkAll ds ≤ 1048576)
def OpenSpec.upto (s : _root_.Go.ChangeSpec) : _root_.Go.OpenSpec := { _root_.Go.OpenSpec.ofChange s with cond := some uptoSmall }

/-- 'culletlaw12.TrieFinds', WHERE WHAT IT READS IS OF BULK AT MOST 1048576: true; the input reads as it did. -/
def trieFindsUptoRow : OpenClaim := { program := "ytdnlnloogfnlgaa", sum := "9b606ac0a03359e81c446343d94fffe51911d94e9462f0f74597276e36856e83", func := "cullet/culletlaw12.TrieFinds", spec := "trieFinds", unfollowed := true, recurses := true, apart := false, narrowed := true }
def TrieFindsUptoSaid : Prop := trieFindsUptoRow.holds Try.pinned (OpenSpec.upto trieFindsSpec)

/-- 'culletlaw12.TrieEldest', WHERE WHAT IT READS IS OF BULK AT MOST 1048576: true; the input reads as it did. -/
def trieEldestUptoRow : OpenClaim := { program := "ytdnlnloogfnlgaa", sum := "9b606ac0a03359e81c446343d94fffe51911d94e9462f0f74597276e36856e83", func := "cullet/culletlaw12.TrieEldest", spec := "trieEldest", unfollowed := true, recurses := true, apart := false, narrowed := true }
def TrieEldestUptoSaid : Prop := trieEldestUptoRow.holds Try.pinned (OpenSpec.upto trieEldestSpec)

/-- 'culletlaw12.TrieMemory', WHERE WHAT IT READS IS OF BULK AT MOST 1048576: true; the input reads as it did. -/
def trieMemoryUptoRow : OpenClaim := { program := "ytdnlnloogfnlgaa", sum := "9b606ac0a03359e81c446343d94fffe51911d94e9462f0f74597276e36856e83", func := "cullet/culletlaw12.TrieMemory", spec := "trieMemory", unfollowed := true, recurses := true, apart := false, narrowed := true }
def TrieMemoryUptoSaid : Prop := trieMemoryUptoRow.holds Try.pinned (OpenSpec.upto trieMemorySpec)

/-- 'culletlaw12.TrieKeysMemory', WHERE WHAT IT READS IS OF BULK AT MOST 1048576: true; the input reads as it did. -/
def trieKeysMemoryUptoRow : OpenClaim := { program := "ytdnlnloogfnlgaa", sum := "9b606ac0a03359e81c446343d94fffe51911d94e9462f0f74597276e36856e83", func := "cullet/culletlaw12.TrieKeysMemory", spec := "trieKeysMemory", unfollowed := true, recurses := true, apart := false, narrowed := true }
def TrieKeysMemoryUptoSaid : Prop := trieKeysMemoryUptoRow.holds Try.pinned (OpenSpec.upto trieKeysMemorySpec)

/-- 'culletlaw12.TrieNew', WHERE WHAT IT READS IS OF BULK AT MOST 1048576: true; the input reads as it did. -/
def trieNewUptoRow : OpenClaim := { program := "ytdnlnloogfnlgaa", sum := "9b606ac0a03359e81c446343d94fffe51911d94e9462f0f74597276e36856e83", func := "cullet/culletlaw12.TrieNew", spec := "trieNew", unfollowed := true, recurses := true, apart := false, narrowed := true }
def TrieNewUptoSaid : Prop := trieNewUptoRow.holds Try.pinned (OpenSpec.upto trieNewSpec)

/-- 'culletlaw12.TriePlays', WHERE WHAT IT READS IS OF BULK AT MOST 1048576: true; the input reads as it did. -/
def triePlaysUptoRow : OpenClaim := { program := "ytdnlnloogfnlgaa", sum := "9b606ac0a03359e81c446343d94fffe51911d94e9462f0f74597276e36856e83", func := "cullet/culletlaw12.TriePlays", spec := "triePlays", unfollowed := true, recurses := true, apart := false, narrowed := true }
def TriePlaysUptoSaid : Prop := triePlaysUptoRow.holds Try.pinned (OpenSpec.upto triePlaysSpec)

/-- 'culletlaw12.TrieViews', WHERE WHAT IT READS IS OF BULK AT MOST 1048576: true; the input reads as it did. -/
def trieViewsUptoRow : OpenClaim := { program := "ytdnlnloogfnlgaa", sum := "9b606ac0a03359e81c446343d94fffe51911d94e9462f0f74597276e36856e83", func := "cullet/culletlaw12.TrieViews", spec := "trieViews", unfollowed := true, recurses := true, apart := false, narrowed := true }
def TrieViewsUptoSaid : Prop := trieViewsUptoRow.holds Try.pinned (OpenSpec.upto trieViewsSpec)

/-- 'culletlaw12.TrieWalks', WHERE WHAT IT READS IS OF BULK AT MOST 1048576: true; the input reads as it did. -/
def trieWalksUptoRow : OpenClaim := { program := "ytdnlnloogfnlgaa", sum := "9b606ac0a03359e81c446343d94fffe51911d94e9462f0f74597276e36856e83", func := "cullet/culletlaw12.TrieWalks", spec := "trieWalks", unfollowed := true, recurses := true, apart := false, narrowed := true }
def TrieWalksUptoSaid : Prop := trieWalksUptoRow.holds Try.pinned (OpenSpec.upto trieWalksSpec)

end Rows
end Go.Proofs.Ytdnlnloogfnlgaa
