/-
  No cell of these rows narrows 'for every input' (looked for: loops, veiled, ifaces, maps, wideKeys, modest, calm, conditions, laid).
  DERIVED. THE GIVEN ROWS OF THIS SEAT. 9 by the template 'for every input the law returns true; each argument reads behind the call as it read before'; 0 by the template 'total and deterministic' (their statements: YtcjbiepdggibaaaTotals.lean).
  GIVEN WITH THE SEED: the statements are not yours to turn. If you find one false, say at which input.
  Laid BY PROGRAM, IN A SANDBOX (cutbox-rows.mjs): the forced cells as the released guide's own fill.sh prints them over the translation b0b0d6c931191ef3… (all of the seat's roots in one cut). By AI agents, Wed Nov 11 2026. No macro, syntax, notation, axiom, sorry.
-/
import Derived.Test.YtcjbiepdggibaaaChecked
import GoSem.Claim
import GoSem.ClaimJoined
import GoSem.ClaimMapViews
import Derived.JoinedTies
import Derived.KernelRfl
namespace Go.Proofs.Ytcjbiepdggibaaa
/- THE CELL 'sum', in the pinned program and in every row, IS THE sha256 OF THE DUMP (.gsa) THAT YtcjbiepdggibaaaProg.lean LOADS. Nothing in Lean hashes anything: it is a label: what it is worth is what the hold of that sum in a sandbox is worth. -/
noncomputable def Try.pinned : Pinned := { name := "ytcjbiepdggibaaa", sum := "b0b0d6c931191ef3c306b7e31ac7416125ca35a886733f20c278914e17117415", checked := Try.checked }
namespace Rows
def none {H : Type} : Left H := { results := [], args := [] }

/-- 'culletlaw02.Gf8Names': WHATEVER THE INPUT: true; the input reads as it did. -/
def gf8NamesSpec : ChangeSpec := { name := "gf8Names", fn := fun _ => fun
  | [] => { results := [.lit (.bool true)], args := [] }
  | _ => none }
def gf8NamesRow : OpenClaim := { program := "ytcjbiepdggibaaa", sum := "b0b0d6c931191ef3c306b7e31ac7416125ca35a886733f20c278914e17117415", func := "cullet/culletlaw02.Gf8Names", spec := "gf8Names", apart := false }
def Gf8NamesSaid : Prop := gf8NamesRow.holds Try.pinned (OpenSpec.ofChange gf8NamesSpec)

/-- ITS FALSE NEIGHBOUR: 'it returns false'. Refute it at one input. -/
def gf8NamesWrong : ChangeSpec := { name := "gf8Names", fn := fun _ => fun
  | [] => { results := [.lit (.bool false)], args := [] }
  | _ => none }
def Gf8NamesWrongFalsely : Prop := gf8NamesRow.holds Try.pinned (OpenSpec.ofChange gf8NamesWrong)

/-- 'culletlaw02.Gf8Field': WHATEVER THE INPUT: true; the input reads as it did. -/
def gf8FieldSpec : ChangeSpec := { name := "gf8Field", fn := fun _ => fun
  | [d1, d2, d3] => { results := [.lit (.bool true)], args := [d1, d2, d3] }
  | _ => none }
def gf8FieldRow : OpenClaim := { program := "ytcjbiepdggibaaa", sum := "b0b0d6c931191ef3c306b7e31ac7416125ca35a886733f20c278914e17117415", func := "cullet/culletlaw02.Gf8Field", spec := "gf8Field", apart := false }
def Gf8FieldSaid : Prop := gf8FieldRow.holds Try.pinned (OpenSpec.ofChange gf8FieldSpec)

/-- ITS FALSE NEIGHBOUR: 'it returns false'. Refute it at one input. -/
def gf8FieldWrong : ChangeSpec := { name := "gf8Field", fn := fun _ => fun
  | [d1, d2, d3] => { results := [.lit (.bool false)], args := [d1, d2, d3] }
  | _ => none }
def Gf8FieldWrongFalsely : Prop := gf8FieldRow.holds Try.pinned (OpenSpec.ofChange gf8FieldWrong)

/-- 'culletlaw02.Gf8Inverse': WHATEVER THE INPUT: true; the input reads as it did. -/
def gf8InverseSpec : ChangeSpec := { name := "gf8Inverse", fn := fun _ => fun
  | [d1, d2] => { results := [.lit (.bool true)], args := [d1, d2] }
  | _ => none }
def gf8InverseRow : OpenClaim := { program := "ytcjbiepdggibaaa", sum := "b0b0d6c931191ef3c306b7e31ac7416125ca35a886733f20c278914e17117415", func := "cullet/culletlaw02.Gf8Inverse", spec := "gf8Inverse", apart := false }
def Gf8InverseSaid : Prop := gf8InverseRow.holds Try.pinned (OpenSpec.ofChange gf8InverseSpec)

/-- ITS FALSE NEIGHBOUR: 'it returns false'. Refute it at one input. -/
def gf8InverseWrong : ChangeSpec := { name := "gf8Inverse", fn := fun _ => fun
  | [d1, d2] => { results := [.lit (.bool false)], args := [d1, d2] }
  | _ => none }
def Gf8InverseWrongFalsely : Prop := gf8InverseRow.holds Try.pinned (OpenSpec.ofChange gf8InverseWrong)

/-- 'culletlaw02.Gf8Sums': WHATEVER THE INPUT: true; the input reads as it did. -/
def gf8SumsSpec : ChangeSpec := { name := "gf8Sums", fn := fun _ => fun
  | [d1, d2, d3] => { results := [.lit (.bool true)], args := [d1, d2, d3] }
  | _ => none }
def gf8SumsRow : OpenClaim := { program := "ytcjbiepdggibaaa", sum := "b0b0d6c931191ef3c306b7e31ac7416125ca35a886733f20c278914e17117415", func := "cullet/culletlaw02.Gf8Sums", spec := "gf8Sums", apart := false }
def Gf8SumsSaid : Prop := gf8SumsRow.holds Try.pinned (OpenSpec.ofChange gf8SumsSpec)

/-- ITS FALSE NEIGHBOUR: 'it returns false'. Refute it at one input. -/
def gf8SumsWrong : ChangeSpec := { name := "gf8Sums", fn := fun _ => fun
  | [d1, d2, d3] => { results := [.lit (.bool false)], args := [d1, d2, d3] }
  | _ => none }
def Gf8SumsWrongFalsely : Prop := gf8SumsRow.holds Try.pinned (OpenSpec.ofChange gf8SumsWrong)

/-- 'culletlaw02.Gf8Rows': WHATEVER THE INPUT: true; the input reads as it did. -/
def gf8RowsSpec : ChangeSpec := { name := "gf8Rows", fn := fun _ => fun
  | [d] => { results := [.lit (.bool true)], args := [d] }
  | _ => none }
def gf8RowsRow : OpenClaim := { program := "ytcjbiepdggibaaa", sum := "b0b0d6c931191ef3c306b7e31ac7416125ca35a886733f20c278914e17117415", func := "cullet/culletlaw02.Gf8Rows", spec := "gf8Rows", apart := false }
def Gf8RowsSaid : Prop := gf8RowsRow.holds Try.pinned (OpenSpec.ofChange gf8RowsSpec)

/-- ITS FALSE NEIGHBOUR: 'it returns false'. Refute it at one input. -/
def gf8RowsWrong : ChangeSpec := { name := "gf8Rows", fn := fun _ => fun
  | [d] => { results := [.lit (.bool false)], args := [d] }
  | _ => none }
def Gf8RowsWrongFalsely : Prop := gf8RowsRow.holds Try.pinned (OpenSpec.ofChange gf8RowsWrong)

/-- 'culletlaw02.Gf8Cycle': WHATEVER THE INPUT: true; the input reads as it did. -/
def gf8CycleSpec : ChangeSpec := { name := "gf8Cycle", fn := fun _ => fun
  | [d1, d2] => { results := [.lit (.bool true)], args := [d1, d2] }
  | _ => none }
def gf8CycleRow : OpenClaim := { program := "ytcjbiepdggibaaa", sum := "b0b0d6c931191ef3c306b7e31ac7416125ca35a886733f20c278914e17117415", func := "cullet/culletlaw02.Gf8Cycle", spec := "gf8Cycle", apart := false }
def Gf8CycleSaid : Prop := gf8CycleRow.holds Try.pinned (OpenSpec.ofChange gf8CycleSpec)

/-- ITS FALSE NEIGHBOUR: 'it returns false'. Refute it at one input. -/
def gf8CycleWrong : ChangeSpec := { name := "gf8Cycle", fn := fun _ => fun
  | [d1, d2] => { results := [.lit (.bool false)], args := [d1, d2] }
  | _ => none }
def Gf8CycleWrongFalsely : Prop := gf8CycleRow.holds Try.pinned (OpenSpec.ofChange gf8CycleWrong)

/-- 'culletlaw02.Gf8Agree': WHATEVER THE INPUT: true; the input reads as it did. -/
def gf8AgreeSpec : ChangeSpec := { name := "gf8Agree", fn := fun _ => fun
  | [d1, d2, d3] => { results := [.lit (.bool true)], args := [d1, d2, d3] }
  | _ => none }
def gf8AgreeRow : OpenClaim := { program := "ytcjbiepdggibaaa", sum := "b0b0d6c931191ef3c306b7e31ac7416125ca35a886733f20c278914e17117415", func := "cullet/culletlaw02.Gf8Agree", spec := "gf8Agree", apart := false }
def Gf8AgreeSaid : Prop := gf8AgreeRow.holds Try.pinned (OpenSpec.ofChange gf8AgreeSpec)

/-- ITS FALSE NEIGHBOUR: 'it returns false'. Refute it at one input. -/
def gf8AgreeWrong : ChangeSpec := { name := "gf8Agree", fn := fun _ => fun
  | [d1, d2, d3] => { results := [.lit (.bool false)], args := [d1, d2, d3] }
  | _ => none }
def Gf8AgreeWrongFalsely : Prop := gf8AgreeRow.holds Try.pinned (OpenSpec.ofChange gf8AgreeWrong)

/-- 'culletlaw02.Gf8Powers': WHATEVER THE INPUT: true; the input reads as it did. -/
def gf8PowersSpec : ChangeSpec := { name := "gf8Powers", fn := fun _ => fun
  | [d] => { results := [.lit (.bool true)], args := [d] }
  | _ => none }
def gf8PowersRow : OpenClaim := { program := "ytcjbiepdggibaaa", sum := "b0b0d6c931191ef3c306b7e31ac7416125ca35a886733f20c278914e17117415", func := "cullet/culletlaw02.Gf8Powers", spec := "gf8Powers", apart := false }
def Gf8PowersSaid : Prop := gf8PowersRow.holds Try.pinned (OpenSpec.ofChange gf8PowersSpec)

/-- ITS FALSE NEIGHBOUR: 'it returns false'. Refute it at one input. -/
def gf8PowersWrong : ChangeSpec := { name := "gf8Powers", fn := fun _ => fun
  | [d] => { results := [.lit (.bool false)], args := [d] }
  | _ => none }
def Gf8PowersWrongFalsely : Prop := gf8PowersRow.holds Try.pinned (OpenSpec.ofChange gf8PowersWrong)

/-- 'culletlaw02.Gf8Alls': WHATEVER THE INPUT: true; the input reads as it did. -/
def gf8AllsSpec : ChangeSpec := { name := "gf8Alls", fn := fun _ => fun
  | [d] => { results := [.lit (.bool true)], args := [d] }
  | _ => none }
def gf8AllsRow : OpenClaim := { program := "ytcjbiepdggibaaa", sum := "b0b0d6c931191ef3c306b7e31ac7416125ca35a886733f20c278914e17117415", func := "cullet/culletlaw02.Gf8Alls", spec := "gf8Alls", apart := false }
def Gf8AllsSaid : Prop := gf8AllsRow.holds Try.pinned (OpenSpec.ofChange gf8AllsSpec)

/-- ITS FALSE NEIGHBOUR: 'it returns false'. Refute it at one input. -/
def gf8AllsWrong : ChangeSpec := { name := "gf8Alls", fn := fun _ => fun
  | [d] => { results := [.lit (.bool false)], args := [d] }
  | _ => none }
def Gf8AllsWrongFalsely : Prop := gf8AllsRow.holds Try.pinned (OpenSpec.ofChange gf8AllsWrong)

/- THE SECOND FORM. 'bulk': how many values and letters a reading holds, each counted each time it is reached (what is shared counts as often as it is met; a slice's spare places count too). A statement '..UptoSaid' is the law's where the arguments, and the package variables that the reading takes, are together of bulk at most 1048576: NARROWER than '..Said'. Prove '..Said' where nothing that the law and all that it calls make is longer than what came in: it says more and counts as full. Else prove '..UptoSaid'. A law counts once. -/
mutual
def uptoBulk {H : Type} : DataW H → Nat
  | .lit (.string bytes) => bytes.length + 1
  | .lit _ => 1
  | .nil => 1
  | .ptr d => uptoBulk d + 1
  | .slice elems spare => uptoBulkAll elems + uptoBulkAll spare + 1
  | .agg parts => uptoBulkAll parts + 1
  | .iface _ d => uptoBulk d + 1
  | .map entries => uptoBulkEntries entries + 1
  | .held _ => 1
def uptoBulkAll {H : Type} : List (DataW H) → Nat
  | [] => 0
  | d :: r => uptoBulk d + uptoBulkAll r
def uptoBulkEntries {H : Type} : List (Lit × DataW H) → Nat
  | [] => 0
  | x :: r => uptoBulkEntry x + uptoBulkEntries r
def uptoBulkEntry {H : Type} : Lit × DataW H → Nat
  | (.string bytes, d) => bytes.length + uptoBulk d + 1
  | (_, d) => uptoBulk d + 1
 end
def uptoSmall : (H : Type) → List (DataW H) → Bool := fun _ ds => decide (uptoBulkAll ds ≤ 1048576)
def OpenSpec.upto (s : _root_.Go.ChangeSpec) : _root_.Go.OpenSpec := { _root_.Go.OpenSpec.ofChange s with cond := some uptoSmall }

/-- 'culletlaw02.Gf8Names', WHERE WHAT IT READS IS OF BULK AT MOST 1048576: true; the input reads as it did. -/
def gf8NamesUptoRow : OpenClaim := { program := "ytcjbiepdggibaaa", sum := "b0b0d6c931191ef3c306b7e31ac7416125ca35a886733f20c278914e17117415", func := "cullet/culletlaw02.Gf8Names", spec := "gf8Names", apart := false, narrowed := true }
def Gf8NamesUptoSaid : Prop := gf8NamesUptoRow.holds Try.pinned (OpenSpec.upto gf8NamesSpec)

/-- 'culletlaw02.Gf8Field', WHERE WHAT IT READS IS OF BULK AT MOST 1048576: true; the input reads as it did. -/
def gf8FieldUptoRow : OpenClaim := { program := "ytcjbiepdggibaaa", sum := "b0b0d6c931191ef3c306b7e31ac7416125ca35a886733f20c278914e17117415", func := "cullet/culletlaw02.Gf8Field", spec := "gf8Field", apart := false, narrowed := true }
def Gf8FieldUptoSaid : Prop := gf8FieldUptoRow.holds Try.pinned (OpenSpec.upto gf8FieldSpec)

/-- 'culletlaw02.Gf8Inverse', WHERE WHAT IT READS IS OF BULK AT MOST 1048576: true; the input reads as it did. -/
def gf8InverseUptoRow : OpenClaim := { program := "ytcjbiepdggibaaa", sum := "b0b0d6c931191ef3c306b7e31ac7416125ca35a886733f20c278914e17117415", func := "cullet/culletlaw02.Gf8Inverse", spec := "gf8Inverse", apart := false, narrowed := true }
def Gf8InverseUptoSaid : Prop := gf8InverseUptoRow.holds Try.pinned (OpenSpec.upto gf8InverseSpec)

/-- 'culletlaw02.Gf8Sums', WHERE WHAT IT READS IS OF BULK AT MOST 1048576: true; the input reads as it did. -/
def gf8SumsUptoRow : OpenClaim := { program := "ytcjbiepdggibaaa", sum := "b0b0d6c931191ef3c306b7e31ac7416125ca35a886733f20c278914e17117415", func := "cullet/culletlaw02.Gf8Sums", spec := "gf8Sums", apart := false, narrowed := true }
def Gf8SumsUptoSaid : Prop := gf8SumsUptoRow.holds Try.pinned (OpenSpec.upto gf8SumsSpec)

/-- 'culletlaw02.Gf8Rows', WHERE WHAT IT READS IS OF BULK AT MOST 1048576: true; the input reads as it did. -/
def gf8RowsUptoRow : OpenClaim := { program := "ytcjbiepdggibaaa", sum := "b0b0d6c931191ef3c306b7e31ac7416125ca35a886733f20c278914e17117415", func := "cullet/culletlaw02.Gf8Rows", spec := "gf8Rows", apart := false, narrowed := true }
def Gf8RowsUptoSaid : Prop := gf8RowsUptoRow.holds Try.pinned (OpenSpec.upto gf8RowsSpec)

/-- 'culletlaw02.Gf8Cycle', WHERE WHAT IT READS IS OF BULK AT MOST 1048576: true; the input reads as it did. -/
def gf8CycleUptoRow : OpenClaim := { program := "ytcjbiepdggibaaa", sum := "b0b0d6c931191ef3c306b7e31ac7416125ca35a886733f20c278914e17117415", func := "cullet/culletlaw02.Gf8Cycle", spec := "gf8Cycle", apart := false, narrowed := true }
def Gf8CycleUptoSaid : Prop := gf8CycleUptoRow.holds Try.pinned (OpenSpec.upto gf8CycleSpec)

/-- 'culletlaw02.Gf8Agree', WHERE WHAT IT READS IS OF BULK AT MOST 1048576: true; the input reads as it did. -/
def gf8AgreeUptoRow : OpenClaim := { program := "ytcjbiepdggibaaa", sum := "b0b0d6c931191ef3c306b7e31ac7416125ca35a886733f20c278914e17117415", func := "cullet/culletlaw02.Gf8Agree", spec := "gf8Agree", apart := false, narrowed := true }
def Gf8AgreeUptoSaid : Prop := gf8AgreeUptoRow.holds Try.pinned (OpenSpec.upto gf8AgreeSpec)

/-- 'culletlaw02.Gf8Powers', WHERE WHAT IT READS IS OF BULK AT MOST 1048576: true; the input reads as it did. -/
def gf8PowersUptoRow : OpenClaim := { program := "ytcjbiepdggibaaa", sum := "b0b0d6c931191ef3c306b7e31ac7416125ca35a886733f20c278914e17117415", func := "cullet/culletlaw02.Gf8Powers", spec := "gf8Powers", apart := false, narrowed := true }
def Gf8PowersUptoSaid : Prop := gf8PowersUptoRow.holds Try.pinned (OpenSpec.upto gf8PowersSpec)

/-- 'culletlaw02.Gf8Alls', WHERE WHAT IT READS IS OF BULK AT MOST 1048576: true; the input reads as it did. -/
def gf8AllsUptoRow : OpenClaim := { program := "ytcjbiepdggibaaa", sum := "b0b0d6c931191ef3c306b7e31ac7416125ca35a886733f20c278914e17117415", func := "cullet/culletlaw02.Gf8Alls", spec := "gf8Alls", apart := false, narrowed := true }
def Gf8AllsUptoSaid : Prop := gf8AllsUptoRow.holds Try.pinned (OpenSpec.upto gf8AllsSpec)

end Rows
end Go.Proofs.Ytcjbiepdggibaaa
