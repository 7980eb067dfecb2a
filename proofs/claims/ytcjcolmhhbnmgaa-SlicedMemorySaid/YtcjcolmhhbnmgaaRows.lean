/-
  No cell of these rows narrows 'for every input' (looked for: loops, veiled, ifaces, maps, wideKeys, modest, calm, conditions, laid).
  DERIVED. THE GIVEN ROWS OF THIS SEAT. 9 by the template 'for every input the law returns true; each argument reads behind the call as it read before'; 0 by the template 'total and deterministic' (their statements: YtcjcolmhhbnmgaaTotals.lean).
  GIVEN WITH THE SEED: the statements are not yours to turn. If you find one false, say at which input.
  Laid BY PROGRAM, IN A SANDBOX (cutbox-rows.mjs): the forced cells as the released guide's own fill.sh prints them over the translation 3c0501a920679224… (all of the seat's roots in one cut). By AI agents, Wed Nov 11 2026. No macro, syntax, notation, axiom, sorry.
-/
import Derived.Test.YtcjcolmhhbnmgaaChecked
import GoSem.Claim
import GoSem.ClaimJoined
import GoSem.ClaimMapViews
import Derived.JoinedTies
import Derived.KernelRfl
namespace Go.Proofs.Ytcjcolmhhbnmgaa
/- THE CELL 'sum', in the pinned program and in every row, IS THE sha256 OF THE DUMP (.gsa) THAT YtcjcolmhhbnmgaaProg.lean LOADS. Nothing in Lean hashes anything: it is a label: what it is worth is what the hold of that sum in a sandbox is worth. -/
noncomputable def Try.pinned : Pinned := { name := "ytcjcolmhhbnmgaa", sum := "3c0501a920679224233b21097485cc30d92e516e0ec3cf3b94aed27f2547191d", checked := Try.checked }
namespace Rows
def none {H : Type} : Left H := { results := [], args := [] }

/-- 'culletlaw07.SlicedPieces': WHATEVER THE INPUT: true; the input reads as it did. -/
def slicedPiecesSpec : ChangeSpec := { name := "slicedPieces", fn := fun _ => fun
  | [d1, d2, d3] => { results := [.lit (.bool true)], args := [d1, d2, d3] }
  | _ => none }
def slicedPiecesRow : OpenClaim := { program := "ytcjcolmhhbnmgaa", sum := "3c0501a920679224233b21097485cc30d92e516e0ec3cf3b94aed27f2547191d", func := "cullet/culletlaw07.SlicedPieces", spec := "slicedPieces", unfollowed := true, recurses := true, apart := false }
def SlicedPiecesSaid : Prop := slicedPiecesRow.holds Try.pinned (OpenSpec.ofChange slicedPiecesSpec)

/-- ITS FALSE NEIGHBOUR: 'it returns false'. Refute it at one input. -/
def slicedPiecesWrong : ChangeSpec := { name := "slicedPieces", fn := fun _ => fun
  | [d1, d2, d3] => { results := [.lit (.bool false)], args := [d1, d2, d3] }
  | _ => none }
def SlicedPiecesWrongFalsely : Prop := slicedPiecesRow.holds Try.pinned (OpenSpec.ofChange slicedPiecesWrong)

/-- 'culletlaw07.SlicedNil': WHATEVER THE INPUT: true; the input reads as it did. -/
def slicedNilSpec : ChangeSpec := { name := "slicedNil", fn := fun _ => fun
  | [d1, d2, d3] => { results := [.lit (.bool true)], args := [d1, d2, d3] }
  | _ => none }
def slicedNilRow : OpenClaim := { program := "ytcjcolmhhbnmgaa", sum := "3c0501a920679224233b21097485cc30d92e516e0ec3cf3b94aed27f2547191d", func := "cullet/culletlaw07.SlicedNil", spec := "slicedNil", unfollowed := true, recurses := true, apart := false }
def SlicedNilSaid : Prop := slicedNilRow.holds Try.pinned (OpenSpec.ofChange slicedNilSpec)

/-- ITS FALSE NEIGHBOUR: 'it returns false'. Refute it at one input. -/
def slicedNilWrong : ChangeSpec := { name := "slicedNil", fn := fun _ => fun
  | [d1, d2, d3] => { results := [.lit (.bool false)], args := [d1, d2, d3] }
  | _ => none }
def SlicedNilWrongFalsely : Prop := slicedNilRow.holds Try.pinned (OpenSpec.ofChange slicedNilWrong)

/-- 'culletlaw07.SlicedLinear': WHATEVER THE INPUT: true; the input reads as it did. -/
def slicedLinearSpec : ChangeSpec := { name := "slicedLinear", fn := fun _ => fun
  | [d1, d2, d3] => { results := [.lit (.bool true)], args := [d1, d2, d3] }
  | _ => none }
def slicedLinearRow : OpenClaim := { program := "ytcjcolmhhbnmgaa", sum := "3c0501a920679224233b21097485cc30d92e516e0ec3cf3b94aed27f2547191d", func := "cullet/culletlaw07.SlicedLinear", spec := "slicedLinear", unfollowed := true, recurses := true, apart := false }
def SlicedLinearSaid : Prop := slicedLinearRow.holds Try.pinned (OpenSpec.ofChange slicedLinearSpec)

/-- ITS FALSE NEIGHBOUR: 'it returns false'. Refute it at one input. -/
def slicedLinearWrong : ChangeSpec := { name := "slicedLinear", fn := fun _ => fun
  | [d1, d2, d3] => { results := [.lit (.bool false)], args := [d1, d2, d3] }
  | _ => none }
def SlicedLinearWrongFalsely : Prop := slicedLinearRow.holds Try.pinned (OpenSpec.ofChange slicedLinearWrong)

/-- 'culletlaw07.SlicedTurns': WHATEVER THE INPUT: true; the input reads as it did. -/
def slicedTurnsSpec : ChangeSpec := { name := "slicedTurns", fn := fun _ => fun
  | [d1, d2] => { results := [.lit (.bool true)], args := [d1, d2] }
  | _ => none }
def slicedTurnsRow : OpenClaim := { program := "ytcjcolmhhbnmgaa", sum := "3c0501a920679224233b21097485cc30d92e516e0ec3cf3b94aed27f2547191d", func := "cullet/culletlaw07.SlicedTurns", spec := "slicedTurns", unfollowed := true, recurses := true, apart := false }
def SlicedTurnsSaid : Prop := slicedTurnsRow.holds Try.pinned (OpenSpec.ofChange slicedTurnsSpec)

/-- ITS FALSE NEIGHBOUR: 'it returns false'. Refute it at one input. -/
def slicedTurnsWrong : ChangeSpec := { name := "slicedTurns", fn := fun _ => fun
  | [d1, d2] => { results := [.lit (.bool false)], args := [d1, d2] }
  | _ => none }
def SlicedTurnsWrongFalsely : Prop := slicedTurnsRow.holds Try.pinned (OpenSpec.ofChange slicedTurnsWrong)

/-- 'culletlaw07.SlicedMemory': WHATEVER THE INPUT: true; the input reads as it did. -/
def slicedMemorySpec : ChangeSpec := { name := "slicedMemory", fn := fun _ => fun
  | [d1, d2] => { results := [.lit (.bool true)], args := [d1, d2] }
  | _ => none }
def slicedMemoryRow : OpenClaim := { program := "ytcjcolmhhbnmgaa", sum := "3c0501a920679224233b21097485cc30d92e516e0ec3cf3b94aed27f2547191d", func := "cullet/culletlaw07.SlicedMemory", spec := "slicedMemory", unfollowed := true, recurses := true, apart := false }
def SlicedMemorySaid : Prop := slicedMemoryRow.holds Try.pinned (OpenSpec.ofChange slicedMemorySpec)

/-- ITS FALSE NEIGHBOUR: 'it returns false'. Refute it at one input. -/
def slicedMemoryWrong : ChangeSpec := { name := "slicedMemory", fn := fun _ => fun
  | [d1, d2] => { results := [.lit (.bool false)], args := [d1, d2] }
  | _ => none }
def SlicedMemoryWrongFalsely : Prop := slicedMemoryRow.holds Try.pinned (OpenSpec.ofChange slicedMemoryWrong)

/-- 'culletlaw07.SlicedSlices': WHATEVER THE INPUT: true; the input reads as it did. -/
def slicedSlicesSpec : ChangeSpec := { name := "slicedSlices", fn := fun _ => fun
  | [d] => { results := [.lit (.bool true)], args := [d] }
  | _ => none }
def slicedSlicesRow : OpenClaim := { program := "ytcjcolmhhbnmgaa", sum := "3c0501a920679224233b21097485cc30d92e516e0ec3cf3b94aed27f2547191d", func := "cullet/culletlaw07.SlicedSlices", spec := "slicedSlices", unfollowed := true, recurses := true, apart := false }
def SlicedSlicesSaid : Prop := slicedSlicesRow.holds Try.pinned (OpenSpec.ofChange slicedSlicesSpec)

/-- ITS FALSE NEIGHBOUR: 'it returns false'. Refute it at one input. -/
def slicedSlicesWrong : ChangeSpec := { name := "slicedSlices", fn := fun _ => fun
  | [d] => { results := [.lit (.bool false)], args := [d] }
  | _ => none }
def SlicedSlicesWrongFalsely : Prop := slicedSlicesRow.holds Try.pinned (OpenSpec.ofChange slicedSlicesWrong)

/-- 'culletlaw07.SlicedWords': WHATEVER THE INPUT: true; the input reads as it did. -/
def slicedWordsSpec : ChangeSpec := { name := "slicedWords", fn := fun _ => fun
  | [d] => { results := [.lit (.bool true)], args := [d] }
  | _ => none }
def slicedWordsRow : OpenClaim := { program := "ytcjcolmhhbnmgaa", sum := "3c0501a920679224233b21097485cc30d92e516e0ec3cf3b94aed27f2547191d", func := "cullet/culletlaw07.SlicedWords", spec := "slicedWords", unfollowed := true, recurses := true, apart := false }
def SlicedWordsSaid : Prop := slicedWordsRow.holds Try.pinned (OpenSpec.ofChange slicedWordsSpec)

/-- ITS FALSE NEIGHBOUR: 'it returns false'. Refute it at one input. -/
def slicedWordsWrong : ChangeSpec := { name := "slicedWords", fn := fun _ => fun
  | [d] => { results := [.lit (.bool false)], args := [d] }
  | _ => none }
def SlicedWordsWrongFalsely : Prop := slicedWordsRow.holds Try.pinned (OpenSpec.ofChange slicedWordsWrong)

/-- 'culletlaw07.SlicedBlocks': WHATEVER THE INPUT: true; the input reads as it did. -/
def slicedBlocksSpec : ChangeSpec := { name := "slicedBlocks", fn := fun _ => fun
  | [d] => { results := [.lit (.bool true)], args := [d] }
  | _ => none }
def slicedBlocksRow : OpenClaim := { program := "ytcjcolmhhbnmgaa", sum := "3c0501a920679224233b21097485cc30d92e516e0ec3cf3b94aed27f2547191d", func := "cullet/culletlaw07.SlicedBlocks", spec := "slicedBlocks", unfollowed := true, recurses := true, apart := false }
def SlicedBlocksSaid : Prop := slicedBlocksRow.holds Try.pinned (OpenSpec.ofChange slicedBlocksSpec)

/-- ITS FALSE NEIGHBOUR: 'it returns false'. Refute it at one input. -/
def slicedBlocksWrong : ChangeSpec := { name := "slicedBlocks", fn := fun _ => fun
  | [d] => { results := [.lit (.bool false)], args := [d] }
  | _ => none }
def SlicedBlocksWrongFalsely : Prop := slicedBlocksRow.holds Try.pinned (OpenSpec.ofChange slicedBlocksWrong)

/-- 'culletlaw07.SlicedAll': WHATEVER THE INPUT: true; the input reads as it did. -/
def slicedAllSpec : ChangeSpec := { name := "slicedAll", fn := fun _ => fun
  | [d] => { results := [.lit (.bool true)], args := [d] }
  | _ => none }
def slicedAllRow : OpenClaim := { program := "ytcjcolmhhbnmgaa", sum := "3c0501a920679224233b21097485cc30d92e516e0ec3cf3b94aed27f2547191d", func := "cullet/culletlaw07.SlicedAll", spec := "slicedAll", unfollowed := true, recurses := true, apart := false }
def SlicedAllSaid : Prop := slicedAllRow.holds Try.pinned (OpenSpec.ofChange slicedAllSpec)

/-- ITS FALSE NEIGHBOUR: 'it returns false'. Refute it at one input. -/
def slicedAllWrong : ChangeSpec := { name := "slicedAll", fn := fun _ => fun
  | [d] => { results := [.lit (.bool false)], args := [d] }
  | _ => none }
def SlicedAllWrongFalsely : Prop := slicedAllRow.holds Try.pinned (OpenSpec.ofChange slicedAllWrong)

/- THE SECOND FORM. 'bulk': how many values and letters a reading holds, each counted each time it is reached (what is shared counts as often as it is met; a slice's spare places count too). A statement '..UptoSaid' is the law's where the arguments, and the package variables that the reading takes, are together of bulk at most 1048576: NARROWER than '..Said'. Prove '..Said' where nothing that the law and all that it calls make is longer than what came in: it says more and counts as full. Else prove '..UptoSaid'. A law counts once. -/
mutual
def uptoBulk {H : Type} : DataW H → Nat
  | .lit (.string bytes) => bytes.length + 1
  | .lit _ => 1
  | .nil => 1
  | .ptr d => uptoBulk d + 1
  | .slice elems spare => uptoBulkAll elems + uptoBulkAll spare + 1
  | .agg parts => uptoBulkAll parts + 1
  | .iface _ d => uptoBulk d + 1
  | .map entries => uptoBulkEntries entries + 1
  | .held _ => 1
def uptoBulkAll {H : Type} : List (DataW H) → Nat
  | [] => 0
  | d :: r => uptoBulk d + uptoBulkAll r
def uptoBulkEntries {H : Type} : List (Lit × DataW H) → Nat
  | [] => 0
  | x :: r => uptoBulkEntry x + uptoBulkEntries r
def uptoBulkEntry {H : Type} : Lit × DataW H → Nat
  | (.string bytes, d) => bytes.length + uptoBulk d + 1
  | (_, d) => uptoBulk d + 1
 end
def uptoSmall : (H : Type) → List (DataW H) → Bool := fun _ ds => decide (uptoBulkAll ds ≤ 1048576)
def OpenSpec.upto (s : _root_.Go.ChangeSpec) : _root_.Go.OpenSpec := { _root_.Go.OpenSpec.ofChange s with cond := some uptoSmall }

/-- 'culletlaw07.SlicedPieces', WHERE WHAT IT READS IS OF BULK AT MOST 1048576: true; the input reads as it did. -/
def slicedPiecesUptoRow : OpenClaim := { program := "ytcjcolmhhbnmgaa", sum := "3c0501a920679224233b21097485cc30d92e516e0ec3cf3b94aed27f2547191d", func := "cullet/culletlaw07.SlicedPieces", spec := "slicedPieces", unfollowed := true, recurses := true, apart := false, narrowed := true }
def SlicedPiecesUptoSaid : Prop := slicedPiecesUptoRow.holds Try.pinned (OpenSpec.upto slicedPiecesSpec)

/-- 'culletlaw07.SlicedNil', WHERE WHAT IT READS IS OF BULK AT MOST 1048576: true; the input reads as it did. -/
def slicedNilUptoRow : OpenClaim := { program := "ytcjcolmhhbnmgaa", sum := "3c0501a920679224233b21097485cc30d92e516e0ec3cf3b94aed27f2547191d", func := "cullet/culletlaw07.SlicedNil", spec := "slicedNil", unfollowed := true, recurses := true, apart := false, narrowed := true }
def SlicedNilUptoSaid : Prop := slicedNilUptoRow.holds Try.pinned (OpenSpec.upto slicedNilSpec)

/-- 'culletlaw07.SlicedLinear', WHERE WHAT IT READS IS OF BULK AT MOST 1048576: true; the input reads as it did. -/
def slicedLinearUptoRow : OpenClaim := { program := "ytcjcolmhhbnmgaa", sum := "3c0501a920679224233b21097485cc30d92e516e0ec3cf3b94aed27f2547191d", func := "cullet/culletlaw07.SlicedLinear", spec := "slicedLinear", unfollowed := true, recurses := true, apart := false, narrowed := true }
def SlicedLinearUptoSaid : Prop := slicedLinearUptoRow.holds Try.pinned (OpenSpec.upto slicedLinearSpec)

/-- 'culletlaw07.SlicedTurns', WHERE WHAT IT READS IS OF BULK AT MOST 1048576: true; the input reads as it did. -/
def slicedTurnsUptoRow : OpenClaim := { program := "ytcjcolmhhbnmgaa", sum := "3c0501a920679224233b21097485cc30d92e516e0ec3cf3b94aed27f2547191d", func := "cullet/culletlaw07.SlicedTurns", spec := "slicedTurns", unfollowed := true, recurses := true, apart := false, narrowed := true }
def SlicedTurnsUptoSaid : Prop := slicedTurnsUptoRow.holds Try.pinned (OpenSpec.upto slicedTurnsSpec)

/-- 'culletlaw07.SlicedMemory', WHERE WHAT IT READS IS OF BULK AT MOST 1048576: true; the input reads as it did. -/
def slicedMemoryUptoRow : OpenClaim := { program := "ytcjcolmhhbnmgaa", sum := "3c0501a920679224233b21097485cc30d92e516e0ec3cf3b94aed27f2547191d", func := "cullet/culletlaw07.SlicedMemory", spec := "slicedMemory", unfollowed := true, recurses := true, apart := false, narrowed := true }
def SlicedMemoryUptoSaid : Prop := slicedMemoryUptoRow.holds Try.pinned (OpenSpec.upto slicedMemorySpec)

/-- 'culletlaw07.SlicedSlices', WHERE WHAT IT READS IS OF BULK AT MOST 1048576: true; the input reads as it did. -/
def slicedSlicesUptoRow : OpenClaim := { program := "ytcjcolmhhbnmgaa", sum := "3c0501a920679224233b21097485cc30d92e516e0ec3cf3b94aed27f2547191d", func := "cullet/culletlaw07.SlicedSlices", spec := "slicedSlices", unfollowed := true, recurses := true, apart := false, narrowed := true }
def SlicedSlicesUptoSaid : Prop := slicedSlicesUptoRow.holds Try.pinned (OpenSpec.upto slicedSlicesSpec)

/-- 'culletlaw07.SlicedWords', WHERE WHAT IT READS IS OF BULK AT MOST 1048576: true; the input reads as it did. -/
def slicedWordsUptoRow : OpenClaim := { program := "ytcjcolmhhbnmgaa", sum := "3c0501a920679224233b21097485cc30d92e516e0ec3cf3b94aed27f2547191d", func := "cullet/culletlaw07.SlicedWords", spec := "slicedWords", unfollowed := true, recurses := true, apart := false, narrowed := true }
def SlicedWordsUptoSaid : Prop := slicedWordsUptoRow.holds Try.pinned (OpenSpec.upto slicedWordsSpec)

/-- 'culletlaw07.SlicedBlocks', WHERE WHAT IT READS IS OF BULK AT MOST 1048576: true; the input reads as it did. -/
def slicedBlocksUptoRow : OpenClaim := { program := "ytcjcolmhhbnmgaa", sum := "3c0501a920679224233b21097485cc30d92e516e0ec3cf3b94aed27f2547191d", func := "cullet/culletlaw07.SlicedBlocks", spec := "slicedBlocks", unfollowed := true, recurses := true, apart := false, narrowed := true }
def SlicedBlocksUptoSaid : Prop := slicedBlocksUptoRow.holds Try.pinned (OpenSpec.upto slicedBlocksSpec)

/-- 'culletlaw07.SlicedAll', WHERE WHAT IT READS IS OF BULK AT MOST 1048576: true; the input reads as it did. -/
def slicedAllUptoRow : OpenClaim := { program := "ytcjcolmhhbnmgaa", sum := "3c0501a920679224233b21097485cc30d92e516e0ec3cf3b94aed27f2547191d", func := "cullet/culletlaw07.SlicedAll", spec := "slicedAll", unfollowed := true, recurses := true, apart := false, narrowed := true }
def SlicedAllUptoSaid : Prop := slicedAllUptoRow.holds Try.pinned (OpenSpec.upto slicedAllSpec)

end Rows
end Go.Proofs.Ytcjcolmhhbnmgaa
