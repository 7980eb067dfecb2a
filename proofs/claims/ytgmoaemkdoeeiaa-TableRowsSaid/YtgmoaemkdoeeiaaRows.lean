/-
  No cell of these rows narrows 'for every input' (looked for: loops, veiled, ifaces, maps, wideKeys, modest, calm, conditions, laid).
  DERIVED. THE GIVEN ROWS OF THIS SEAT. 8 by the template 'for every input the law returns true; each argument reads behind the call as it read before'; 0 by the template 'total and deterministic' (their statements: YtgmoaemkdoeeiaaTotals.lean).
  GIVEN WITH THE SEED: the statements are not yours to turn. If you find one false, say at which input.
  Laid BY PROGRAM, IN A SANDBOX (cutbox-rows.mjs): the forced cells as the released guide's own fill.sh prints them over the translation 927d3ec42589d07d… (all of the seat's roots in one cut). By AI agents, Wed Nov 11 2026. No macro, syntax, notation, axiom, sorry.
-/
import Derived.Test.YtgmoaemkdoeeiaaChecked
import GoSem.Claim
import GoSem.ClaimJoined
import GoSem.ClaimMapViews
import Derived.JoinedTies
import Derived.KernelRfl
namespace Go.Proofs.Ytgmoaemkdoeeiaa
/- THE CELL 'sum', in the pinned program and in every row, IS THE sha256 OF THE DUMP (.gsa) THAT YtgmoaemkdoeeiaaProg.lean LOADS. Nothing in Lean hashes anything: it is a label: what it is worth is what the hold of that sum in a sandbox is worth. -/
noncomputable def Try.pinned : Pinned := { name := "ytgmoaemkdoeeiaa", sum := "927d3ec42589d07d8fd5bcf3d586bd1df3fcb3f4d4ec284e4e2627cd8ae010c6", checked := Try.checked }
namespace Rows
def none {H : Type} : Left H := { results := [], args := [] }

/-- 'culletlaw05.TableNames': WHATEVER THE INPUT: true; the input reads as it did. -/
def tableNamesSpec : ChangeSpec := { name := "tableNames", fn := fun _ => fun
  | [] => { results := [.lit (.bool true)], args := [] }
  | _ => none }
def tableNamesRow : OpenClaim := { program := "ytgmoaemkdoeeiaa", sum := "927d3ec42589d07d8fd5bcf3d586bd1df3fcb3f4d4ec284e4e2627cd8ae010c6", func := "cullet/culletlaw05.TableNames", spec := "tableNames", apart := false }
def TableNamesSaid : Prop := tableNamesRow.holds Try.pinned (OpenSpec.ofChange tableNamesSpec)

/-- ITS FALSE NEIGHBOUR: 'it returns false'. Refute it at one input. -/
def tableNamesWrong : ChangeSpec := { name := "tableNames", fn := fun _ => fun
  | [] => { results := [.lit (.bool false)], args := [] }
  | _ => none }
def TableNamesWrongFalsely : Prop := tableNamesRow.holds Try.pinned (OpenSpec.ofChange tableNamesWrong)

/-- 'culletlaw05.TableSums': WHATEVER THE INPUT: true; the input reads as it did. -/
def tableSumsSpec : ChangeSpec := { name := "tableSums", fn := fun _ => fun
  | [d1, d2, d3, d4] => { results := [.lit (.bool true)], args := [d1, d2, d3, d4] }
  | _ => none }
def tableSumsRow : OpenClaim := { program := "ytgmoaemkdoeeiaa", sum := "927d3ec42589d07d8fd5bcf3d586bd1df3fcb3f4d4ec284e4e2627cd8ae010c6", func := "cullet/culletlaw05.TableSums", spec := "tableSums", apart := false }
def TableSumsSaid : Prop := tableSumsRow.holds Try.pinned (OpenSpec.ofChange tableSumsSpec)

/-- ITS FALSE NEIGHBOUR: 'it returns false'. Refute it at one input. -/
def tableSumsWrong : ChangeSpec := { name := "tableSums", fn := fun _ => fun
  | [d1, d2, d3, d4] => { results := [.lit (.bool false)], args := [d1, d2, d3, d4] }
  | _ => none }
def TableSumsWrongFalsely : Prop := tableSumsRow.holds Try.pinned (OpenSpec.ofChange tableSumsWrong)

/-- 'culletlaw05.TablePieces': WHATEVER THE INPUT: true; the input reads as it did. -/
def tablePiecesSpec : ChangeSpec := { name := "tablePieces", fn := fun _ => fun
  | [d1, d2, d3, d4] => { results := [.lit (.bool true)], args := [d1, d2, d3, d4] }
  | _ => none }
def tablePiecesRow : OpenClaim := { program := "ytgmoaemkdoeeiaa", sum := "927d3ec42589d07d8fd5bcf3d586bd1df3fcb3f4d4ec284e4e2627cd8ae010c6", func := "cullet/culletlaw05.TablePieces", spec := "tablePieces", apart := false }
def TablePiecesSaid : Prop := tablePiecesRow.holds Try.pinned (OpenSpec.ofChange tablePiecesSpec)

/-- ITS FALSE NEIGHBOUR: 'it returns false'. Refute it at one input. -/
def tablePiecesWrong : ChangeSpec := { name := "tablePieces", fn := fun _ => fun
  | [d1, d2, d3, d4] => { results := [.lit (.bool false)], args := [d1, d2, d3, d4] }
  | _ => none }
def TablePiecesWrongFalsely : Prop := tablePiecesRow.holds Try.pinned (OpenSpec.ofChange tablePiecesWrong)

/-- 'culletlaw05.TableMuls': WHATEVER THE INPUT: true; the input reads as it did. -/
def tableMulsSpec : ChangeSpec := { name := "tableMuls", fn := fun _ => fun
  | [d] => { results := [.lit (.bool true)], args := [d] }
  | _ => none }
def tableMulsRow : OpenClaim := { program := "ytgmoaemkdoeeiaa", sum := "927d3ec42589d07d8fd5bcf3d586bd1df3fcb3f4d4ec284e4e2627cd8ae010c6", func := "cullet/culletlaw05.TableMuls", spec := "tableMuls", apart := false }
def TableMulsSaid : Prop := tableMulsRow.holds Try.pinned (OpenSpec.ofChange tableMulsSpec)

/-- ITS FALSE NEIGHBOUR: 'it returns false'. Refute it at one input. -/
def tableMulsWrong : ChangeSpec := { name := "tableMuls", fn := fun _ => fun
  | [d] => { results := [.lit (.bool false)], args := [d] }
  | _ => none }
def TableMulsWrongFalsely : Prop := tableMulsRow.holds Try.pinned (OpenSpec.ofChange tableMulsWrong)

/-- 'culletlaw05.TableAlls': WHATEVER THE INPUT: true; the input reads as it did. -/
def tableAllsSpec : ChangeSpec := { name := "tableAlls", fn := fun _ => fun
  | [d] => { results := [.lit (.bool true)], args := [d] }
  | _ => none }
def tableAllsRow : OpenClaim := { program := "ytgmoaemkdoeeiaa", sum := "927d3ec42589d07d8fd5bcf3d586bd1df3fcb3f4d4ec284e4e2627cd8ae010c6", func := "cullet/culletlaw05.TableAlls", spec := "tableAlls", apart := false }
def TableAllsSaid : Prop := tableAllsRow.holds Try.pinned (OpenSpec.ofChange tableAllsSpec)

/-- ITS FALSE NEIGHBOUR: 'it returns false'. Refute it at one input. -/
def tableAllsWrong : ChangeSpec := { name := "tableAlls", fn := fun _ => fun
  | [d] => { results := [.lit (.bool false)], args := [d] }
  | _ => none }
def TableAllsWrongFalsely : Prop := tableAllsRow.holds Try.pinned (OpenSpec.ofChange tableAllsWrong)

/-- 'culletlaw05.TableScalars': WHATEVER THE INPUT: true; the input reads as it did. -/
def tableScalarsSpec : ChangeSpec := { name := "tableScalars", fn := fun _ => fun
  | [d1, d2] => { results := [.lit (.bool true)], args := [d1, d2] }
  | _ => none }
def tableScalarsRow : OpenClaim := { program := "ytgmoaemkdoeeiaa", sum := "927d3ec42589d07d8fd5bcf3d586bd1df3fcb3f4d4ec284e4e2627cd8ae010c6", func := "cullet/culletlaw05.TableScalars", spec := "tableScalars", apart := false }
def TableScalarsSaid : Prop := tableScalarsRow.holds Try.pinned (OpenSpec.ofChange tableScalarsSpec)

/-- ITS FALSE NEIGHBOUR: 'it returns false'. Refute it at one input. -/
def tableScalarsWrong : ChangeSpec := { name := "tableScalars", fn := fun _ => fun
  | [d1, d2] => { results := [.lit (.bool false)], args := [d1, d2] }
  | _ => none }
def TableScalarsWrongFalsely : Prop := tableScalarsRow.holds Try.pinned (OpenSpec.ofChange tableScalarsWrong)

/-- 'culletlaw05.TableRows': WHATEVER THE INPUT: true; the input reads as it did. -/
def tableRowsSpec : ChangeSpec := { name := "tableRows", fn := fun _ => fun
  | [d] => { results := [.lit (.bool true)], args := [d] }
  | _ => none }
def tableRowsRow : OpenClaim := { program := "ytgmoaemkdoeeiaa", sum := "927d3ec42589d07d8fd5bcf3d586bd1df3fcb3f4d4ec284e4e2627cd8ae010c6", func := "cullet/culletlaw05.TableRows", spec := "tableRows", apart := false }
def TableRowsSaid : Prop := tableRowsRow.holds Try.pinned (OpenSpec.ofChange tableRowsSpec)

/-- ITS FALSE NEIGHBOUR: 'it returns false'. Refute it at one input. -/
def tableRowsWrong : ChangeSpec := { name := "tableRows", fn := fun _ => fun
  | [d] => { results := [.lit (.bool false)], args := [d] }
  | _ => none }
def TableRowsWrongFalsely : Prop := tableRowsRow.holds Try.pinned (OpenSpec.ofChange tableRowsWrong)

/-- 'culletlaw05.TableBack': WHATEVER THE INPUT: true; the input reads as it did. -/
def tableBackSpec : ChangeSpec := { name := "tableBack", fn := fun _ => fun
  | [d1, d2] => { results := [.lit (.bool true)], args := [d1, d2] }
  | _ => none }
def tableBackRow : OpenClaim := { program := "ytgmoaemkdoeeiaa", sum := "927d3ec42589d07d8fd5bcf3d586bd1df3fcb3f4d4ec284e4e2627cd8ae010c6", func := "cullet/culletlaw05.TableBack", spec := "tableBack", apart := false }
def TableBackSaid : Prop := tableBackRow.holds Try.pinned (OpenSpec.ofChange tableBackSpec)

/-- ITS FALSE NEIGHBOUR: 'it returns false'. Refute it at one input. -/
def tableBackWrong : ChangeSpec := { name := "tableBack", fn := fun _ => fun
  | [d1, d2] => { results := [.lit (.bool false)], args := [d1, d2] }
  | _ => none }
def TableBackWrongFalsely : Prop := tableBackRow.holds Try.pinned (OpenSpec.ofChange tableBackWrong)

/- THE SECOND FORM. 'bulk': how many values and letters a reading holds, each counted each time it is reached (what is shared counts as often as it is met; a slice's spare places count too). A statement '..UptoSaid' is the law's where the arguments, and the package variables that the reading takes, are together of bulk at most 1048576: NARROWER than '..Said'. Prove '..Said' where nothing that the law and all that it calls make is longer than what came in: it says more and counts as full. Else prove '..UptoSaid'. A law counts once. -/
mutual
def uptoBulk {H : Type} : DataW H → Nat
  | .lit (.string bytes) => bytes.length + 1
  | .lit _ => 1
  | .nil => 1
  | .ptr d => uptoBulk d + 1
  | .slice elems spare => uptoBulkAll elems + uptoBulkAll spare + 1
  | .agg parts => uptoBulkAll parts + 1
  | .iface _ d => uptoBulk d + 1
  | .map entries => uptoBulkEntries entries + 1
  | .held _ => 1
def uptoBulkAll {H : Type} : List (DataW H) → Nat
  | [] => 0
  | d :: r => uptoBulk d + uptoBulkAll r
def uptoBulkEntries {H : Type} : List (Lit × DataW H) → Nat
  | [] => 0
  | x :: r => uptoBulkEntry x + uptoBulkEntries r
def uptoBulkEntry {H : Type} : Lit × DataW H → Nat
  | (.string bytes, d) => bytes.length + uptoBulk d + 1
  | (_, d) => uptoBulk d + 1
 end
def uptoSmall : (H : Type) → List (DataW H) → Bool := fun _ ds => decide (uptoBulkAll ds ≤ 1048576)
def OpenSpec.upto (s : _root_.Go.ChangeSpec) : _root_.Go.OpenSpec := { _root_.Go.OpenSpec.ofChange s with cond := some uptoSmall }

/-- 'culletlaw05.TableNames', WHERE WHAT IT READS IS OF BULK AT MOST 1048576: true; the input reads as it did. -/
def tableNamesUptoRow : OpenClaim := { program := "ytgmoaemkdoeeiaa", sum := "927d3ec42589d07d8fd5bcf3d586bd1df3fcb3f4d4ec284e4e2627cd8ae010c6", func := "cullet/culletlaw05.TableNames", spec := "tableNames", apart := false, narrowed := true }
def TableNamesUptoSaid : Prop := tableNamesUptoRow.holds Try.pinned (OpenSpec.upto tableNamesSpec)

/-- 'culletlaw05.TableSums', WHERE WHAT IT READS IS OF BULK AT MOST 1048576: true; the input reads as it did. -/
def tableSumsUptoRow : OpenClaim := { program := "ytgmoaemkdoeeiaa", sum := "927d3ec42589d07d8fd5bcf3d586bd1df3fcb3f4d4ec284e4e2627cd8ae010c6", func := "cullet/culletlaw05.TableSums", spec := "tableSums", apart := false, narrowed := true }
def TableSumsUptoSaid : Prop := tableSumsUptoRow.holds Try.pinned (OpenSpec.upto tableSumsSpec)

/-- 'culletlaw05.TablePieces', WHERE WHAT IT READS IS OF BULK AT MOST 1048576: true; the input reads as it did. -/
def tablePiecesUptoRow : OpenClaim := { program := "ytgmoaemkdoeeiaa", sum := "927d3ec42589d07d8fd5bcf3d586bd1df3fcb3f4d4ec284e4e2627cd8ae010c6", func := "cullet/culletlaw05.TablePieces", spec := "tablePieces", apart := false, narrowed := true }
def TablePiecesUptoSaid : Prop := tablePiecesUptoRow.holds Try.pinned (OpenSpec.upto tablePiecesSpec)

/-- 'culletlaw05.TableMuls', WHERE WHAT IT READS IS OF BULK AT MOST 1048576: true; the input reads as it did. -/
def tableMulsUptoRow : OpenClaim := { program := "ytgmoaemkdoeeiaa", sum := "927d3ec42589d07d8fd5bcf3d586bd1df3fcb3f4d4ec284e4e2627cd8ae010c6", func := "cullet/culletlaw05.TableMuls", spec := "tableMuls", apart := false, narrowed := true }
def TableMulsUptoSaid : Prop := tableMulsUptoRow.holds Try.pinned (OpenSpec.upto tableMulsSpec)

/-- 'culletlaw05.TableAlls', WHERE WHAT IT READS IS OF BULK AT MOST 1048576: true; the input reads as it did. -/
def tableAllsUptoRow : OpenClaim := { program := "ytgmoaemkdoeeiaa", sum := "927d3ec42589d07d8fd5bcf3d586bd1df3fcb3f4d4ec284e4e2627cd8ae010c6", func := "cullet/culletlaw05.TableAlls", spec := "tableAlls", apart := false, narrowed := true }
def TableAllsUptoSaid : Prop := tableAllsUptoRow.holds Try.pinned (OpenSpec.upto tableAllsSpec)

/-- 'culletlaw05.TableScalars', WHERE WHAT IT READS IS OF BULK AT MOST 1048576: true; the input reads as it did. -/
def tableScalarsUptoRow : OpenClaim := { program := "ytgmoaemkdoeeiaa", sum := "927d3ec42589d07d8fd5bcf3d586bd1df3fcb3f4d4ec284e4e2627cd8ae010c6", func := "cullet/culletlaw05.TableScalars", spec := "tableScalars", apart := false, narrowed := true }
def TableScalarsUptoSaid : Prop := tableScalarsUptoRow.holds Try.pinned (OpenSpec.upto tableScalarsSpec)

/-- 'culletlaw05.TableRows', WHERE WHAT IT READS IS OF BULK AT MOST 1048576: true; the input reads as it did. -/
def tableRowsUptoRow : OpenClaim := { program := "ytgmoaemkdoeeiaa", sum := "927d3ec42589d07d8fd5bcf3d586bd1df3fcb3f4d4ec284e4e2627cd8ae010c6", func := "cullet/culletlaw05.TableRows", spec := "tableRows", apart := false, narrowed := true }
def TableRowsUptoSaid : Prop := tableRowsUptoRow.holds Try.pinned (OpenSpec.upto tableRowsSpec)

/-- 'culletlaw05.TableBack', WHERE WHAT IT READS IS OF BULK AT MOST 1048576: true; the input reads as it did. -/
def tableBackUptoRow : OpenClaim := { program := "ytgmoaemkdoeeiaa", sum := "927d3ec42589d07d8fd5bcf3d586bd1df3fcb3f4d4ec284e4e2627cd8ae010c6", func := "cullet/culletlaw05.TableBack", spec := "tableBack", apart := false, narrowed := true }
def TableBackUptoSaid : Prop := tableBackUptoRow.holds Try.pinned (OpenSpec.upto tableBackSpec)

end Rows
end Go.Proofs.Ytgmoaemkdoeeiaa
