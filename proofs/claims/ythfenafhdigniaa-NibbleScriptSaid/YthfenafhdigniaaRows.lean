/-
  No cell of these rows narrows 'for every input' (looked for: loops, veiled, ifaces, maps, wideKeys, modest, calm, conditions, laid).
  DERIVED. THE GIVEN ROWS OF THIS SEAT. 8 by the template 'for every input the law returns true; each argument reads behind the call as it read before'; 0 by the template 'total and deterministic' (their statements: YthfenafhdigniaaTotals.lean).
  GIVEN WITH THE SEED: the statements are not yours to turn. If you find one false, say at which input.
  Laid BY PROGRAM, IN A SANDBOX (cutbox-rows.mjs): the forced cells as the released guide's own fill.sh prints them over the translation 6fcdbe9d14d8f323… (all of the seat's roots in one cut). By AI agents, Wed Nov 11 2026. No macro, syntax, notation, axiom, sorry.
-/
import Derived.Test.YthfenafhdigniaaChecked
import GoSem.Claim
import GoSem.ClaimJoined
import GoSem.ClaimMapViews
import Derived.JoinedTies
import Derived.KernelRfl
namespace Go.Proofs.Ythfenafhdigniaa
/- THE CELL 'sum', in the pinned program and in every row, IS THE sha256 OF THE DUMP (.gsa) THAT YthfenafhdigniaaProg.lean LOADS. Nothing in Lean hashes anything: it is a label: what it is worth is what the hold of that sum in a sandbox is worth. -/
noncomputable def Try.pinned : Pinned := { name := "ythfenafhdigniaa", sum := "6fcdbe9d14d8f323111a81d085cdb97dcf8a20af2b41627d6165b65429bd2e6d", checked := Try.checked }
namespace Rows
def none {H : Type} : Left H := { results := [], args := [] }

/-- 'culletlaw06.NibbleLinear': WHATEVER THE INPUT: true; the input reads as it did. -/
def nibbleLinearSpec : ChangeSpec := { name := "nibbleLinear", fn := fun _ => fun
  | [d1, d2, d3] => { results := [.lit (.bool true)], args := [d1, d2, d3] }
  | _ => none }
def nibbleLinearRow : OpenClaim := { program := "ythfenafhdigniaa", sum := "6fcdbe9d14d8f323111a81d085cdb97dcf8a20af2b41627d6165b65429bd2e6d", func := "cullet/culletlaw06.NibbleLinear", spec := "nibbleLinear", apart := false }
def NibbleLinearSaid : Prop := nibbleLinearRow.holds Try.pinned (OpenSpec.ofChange nibbleLinearSpec)

/-- ITS FALSE NEIGHBOUR: 'it returns false'. Refute it at one input. -/
def nibbleLinearWrong : ChangeSpec := { name := "nibbleLinear", fn := fun _ => fun
  | [d1, d2, d3] => { results := [.lit (.bool false)], args := [d1, d2, d3] }
  | _ => none }
def NibbleLinearWrongFalsely : Prop := nibbleLinearRow.holds Try.pinned (OpenSpec.ofChange nibbleLinearWrong)

/-- 'culletlaw06.NibbleHalves': WHATEVER THE INPUT: true; the input reads as it did. -/
def nibbleHalvesSpec : ChangeSpec := { name := "nibbleHalves", fn := fun _ => fun
  | [d1, d2] => { results := [.lit (.bool true)], args := [d1, d2] }
  | _ => none }
def nibbleHalvesRow : OpenClaim := { program := "ythfenafhdigniaa", sum := "6fcdbe9d14d8f323111a81d085cdb97dcf8a20af2b41627d6165b65429bd2e6d", func := "cullet/culletlaw06.NibbleHalves", spec := "nibbleHalves", apart := false }
def NibbleHalvesSaid : Prop := nibbleHalvesRow.holds Try.pinned (OpenSpec.ofChange nibbleHalvesSpec)

/-- ITS FALSE NEIGHBOUR: 'it returns false'. Refute it at one input. -/
def nibbleHalvesWrong : ChangeSpec := { name := "nibbleHalves", fn := fun _ => fun
  | [d1, d2] => { results := [.lit (.bool false)], args := [d1, d2] }
  | _ => none }
def NibbleHalvesWrongFalsely : Prop := nibbleHalvesRow.holds Try.pinned (OpenSpec.ofChange nibbleHalvesWrong)

/-- 'culletlaw06.NibbleMemory': WHATEVER THE INPUT: true; the input reads as it did. -/
def nibbleMemorySpec : ChangeSpec := { name := "nibbleMemory", fn := fun _ => fun
  | [d1, d2, d3] => { results := [.lit (.bool true)], args := [d1, d2, d3] }
  | _ => none }
def nibbleMemoryRow : OpenClaim := { program := "ythfenafhdigniaa", sum := "6fcdbe9d14d8f323111a81d085cdb97dcf8a20af2b41627d6165b65429bd2e6d", func := "cullet/culletlaw06.NibbleMemory", spec := "nibbleMemory", apart := false }
def NibbleMemorySaid : Prop := nibbleMemoryRow.holds Try.pinned (OpenSpec.ofChange nibbleMemorySpec)

/-- ITS FALSE NEIGHBOUR: 'it returns false'. Refute it at one input. -/
def nibbleMemoryWrong : ChangeSpec := { name := "nibbleMemory", fn := fun _ => fun
  | [d1, d2, d3] => { results := [.lit (.bool false)], args := [d1, d2, d3] }
  | _ => none }
def NibbleMemoryWrongFalsely : Prop := nibbleMemoryRow.holds Try.pinned (OpenSpec.ofChange nibbleMemoryWrong)

/-- 'culletlaw06.NibbleCalls': WHATEVER THE INPUT: true; the input reads as it did. -/
def nibbleCallsSpec : ChangeSpec := { name := "nibbleCalls", fn := fun _ => fun
  | [d1, d2, d3] => { results := [.lit (.bool true)], args := [d1, d2, d3] }
  | _ => none }
def nibbleCallsRow : OpenClaim := { program := "ythfenafhdigniaa", sum := "6fcdbe9d14d8f323111a81d085cdb97dcf8a20af2b41627d6165b65429bd2e6d", func := "cullet/culletlaw06.NibbleCalls", spec := "nibbleCalls", apart := false }
def NibbleCallsSaid : Prop := nibbleCallsRow.holds Try.pinned (OpenSpec.ofChange nibbleCallsSpec)

/-- ITS FALSE NEIGHBOUR: 'it returns false'. Refute it at one input. -/
def nibbleCallsWrong : ChangeSpec := { name := "nibbleCalls", fn := fun _ => fun
  | [d1, d2, d3] => { results := [.lit (.bool false)], args := [d1, d2, d3] }
  | _ => none }
def NibbleCallsWrongFalsely : Prop := nibbleCallsRow.holds Try.pinned (OpenSpec.ofChange nibbleCallsWrong)

/-- 'culletlaw06.NibbleScript': WHATEVER THE INPUT: true; the input reads as it did. -/
def nibbleScriptSpec : ChangeSpec := { name := "nibbleScript", fn := fun _ => fun
  | [d1, d2] => { results := [.lit (.bool true)], args := [d1, d2] }
  | _ => none }
def nibbleScriptRow : OpenClaim := { program := "ythfenafhdigniaa", sum := "6fcdbe9d14d8f323111a81d085cdb97dcf8a20af2b41627d6165b65429bd2e6d", func := "cullet/culletlaw06.NibbleScript", spec := "nibbleScript", apart := false }
def NibbleScriptSaid : Prop := nibbleScriptRow.holds Try.pinned (OpenSpec.ofChange nibbleScriptSpec)

/-- ITS FALSE NEIGHBOUR: 'it returns false'. Refute it at one input. -/
def nibbleScriptWrong : ChangeSpec := { name := "nibbleScript", fn := fun _ => fun
  | [d1, d2] => { results := [.lit (.bool false)], args := [d1, d2] }
  | _ => none }
def NibbleScriptWrongFalsely : Prop := nibbleScriptRow.holds Try.pinned (OpenSpec.ofChange nibbleScriptWrong)

/-- 'culletlaw06.NibbleRoom': WHATEVER THE INPUT: true; the input reads as it did. -/
def nibbleRoomSpec : ChangeSpec := { name := "nibbleRoom", fn := fun _ => fun
  | [d] => { results := [.lit (.bool true)], args := [d] }
  | _ => none }
def nibbleRoomRow : OpenClaim := { program := "ythfenafhdigniaa", sum := "6fcdbe9d14d8f323111a81d085cdb97dcf8a20af2b41627d6165b65429bd2e6d", func := "cullet/culletlaw06.NibbleRoom", spec := "nibbleRoom", apart := false }
def NibbleRoomSaid : Prop := nibbleRoomRow.holds Try.pinned (OpenSpec.ofChange nibbleRoomSpec)

/-- ITS FALSE NEIGHBOUR: 'it returns false'. Refute it at one input. -/
def nibbleRoomWrong : ChangeSpec := { name := "nibbleRoom", fn := fun _ => fun
  | [d] => { results := [.lit (.bool false)], args := [d] }
  | _ => none }
def NibbleRoomWrongFalsely : Prop := nibbleRoomRow.holds Try.pinned (OpenSpec.ofChange nibbleRoomWrong)

/-- 'culletlaw06.NibbleBack': WHATEVER THE INPUT: true; the input reads as it did. -/
def nibbleBackSpec : ChangeSpec := { name := "nibbleBack", fn := fun _ => fun
  | [d1, d2, d3] => { results := [.lit (.bool true)], args := [d1, d2, d3] }
  | _ => none }
def nibbleBackRow : OpenClaim := { program := "ythfenafhdigniaa", sum := "6fcdbe9d14d8f323111a81d085cdb97dcf8a20af2b41627d6165b65429bd2e6d", func := "cullet/culletlaw06.NibbleBack", spec := "nibbleBack", apart := false }
def NibbleBackSaid : Prop := nibbleBackRow.holds Try.pinned (OpenSpec.ofChange nibbleBackSpec)

/-- ITS FALSE NEIGHBOUR: 'it returns false'. Refute it at one input. -/
def nibbleBackWrong : ChangeSpec := { name := "nibbleBack", fn := fun _ => fun
  | [d1, d2, d3] => { results := [.lit (.bool false)], args := [d1, d2, d3] }
  | _ => none }
def NibbleBackWrongFalsely : Prop := nibbleBackRow.holds Try.pinned (OpenSpec.ofChange nibbleBackWrong)

/-- 'culletlaw06.NibbleTable': WHATEVER THE INPUT: true; the input reads as it did. -/
def nibbleTableSpec : ChangeSpec := { name := "nibbleTable", fn := fun _ => fun
  | [d1, d2, d3] => { results := [.lit (.bool true)], args := [d1, d2, d3] }
  | _ => none }
def nibbleTableRow : OpenClaim := { program := "ythfenafhdigniaa", sum := "6fcdbe9d14d8f323111a81d085cdb97dcf8a20af2b41627d6165b65429bd2e6d", func := "cullet/culletlaw06.NibbleTable", spec := "nibbleTable", apart := false }
def NibbleTableSaid : Prop := nibbleTableRow.holds Try.pinned (OpenSpec.ofChange nibbleTableSpec)

/-- ITS FALSE NEIGHBOUR: 'it returns false'. Refute it at one input. -/
def nibbleTableWrong : ChangeSpec := { name := "nibbleTable", fn := fun _ => fun
  | [d1, d2, d3] => { results := [.lit (.bool false)], args := [d1, d2, d3] }
  | _ => none }
def NibbleTableWrongFalsely : Prop := nibbleTableRow.holds Try.pinned (OpenSpec.ofChange nibbleTableWrong)

/- THE SECOND FORM. 'bulk': how many values and letters a reading holds, each counted each time it is reached (what is shared counts as often as it is met; a slice's spare places count too). A statement '..UptoSaid' is the law's where the arguments, and the package variables that the reading takes, are together of bulk at most 1048576: NARROWER than '..Said'. Prove '..Said' where nothing that the law and all that it calls make is longer than what came in: it says more and counts as full. Else prove '..UptoSaid'. A law counts once. -/
mutual
def uptoBulk {H : Type} : DataW H → Nat
  | .lit (.string bytes) => bytes.length + 1
  | .lit _ => 1
  | .nil => 1
  | .ptr d => uptoBulk d + 1
  | .slice elems spare => uptoBulkAll elems + uptoBulkAll spare + 1
  | .agg parts => uptoBulkAll parts + 1
  | .iface _ d => uptoBulk d + 1
  | .map entries => uptoBulkEntries entries + 1
  | .held _ => 1
def uptoBulkAll {H : Type} : List (DataW H) → Nat
  | [] => 0
  | d :: r => uptoBulk d + uptoBulkAll r
def uptoBulkEntries {H : Type} : List (Lit × DataW H) → Nat
  | [] => 0
  | x :: r => uptoBulkEntry x + uptoBulkEntries r
def uptoBulkEntry {H : Type} : Lit × DataW H → Nat
  | (.string bytes, d) => bytes.length + uptoBulk d + 1
  | (_, d) => uptoBulk d + 1
 end
def uptoSmall : (H : Type) → List (DataW H) → Bool := fun _ ds => decide (uptoBulkAll ds ≤ 1048576)
def OpenSpec.upto (s : _root_.Go.ChangeSpec) : _root_.Go.OpenSpec := { _root_.Go.OpenSpec.ofChange s with cond := some uptoSmall }

/-- 'culletlaw06.NibbleLinear', WHERE WHAT IT READS IS OF BULK AT MOST 1048576: true; the input reads as it did. -/
def nibbleLinearUptoRow : OpenClaim := { program := "ythfenafhdigniaa", sum := "6fcdbe9d14d8f323111a81d085cdb97dcf8a20af2b41627d6165b65429bd2e6d", func := "cullet/culletlaw06.NibbleLinear", spec := "nibbleLinear", apart := false, narrowed := true }
def NibbleLinearUptoSaid : Prop := nibbleLinearUptoRow.holds Try.pinned (OpenSpec.upto nibbleLinearSpec)

/-- 'culletlaw06.NibbleHalves', WHERE WHAT IT READS IS OF BULK AT MOST 1048576: true; the input reads as it did. -/
def nibbleHalvesUptoRow : OpenClaim := { program := "ythfenafhdigniaa", sum := "6fcdbe9d14d8f323111a81d085cdb97dcf8a20af2b41627d6165b65429bd2e6d", func := "cullet/culletlaw06.NibbleHalves", spec := "nibbleHalves", apart := false, narrowed := true }
def NibbleHalvesUptoSaid : Prop := nibbleHalvesUptoRow.holds Try.pinned (OpenSpec.upto nibbleHalvesSpec)

/-- 'culletlaw06.NibbleMemory', WHERE WHAT IT READS IS OF BULK AT MOST 1048576: true; the input reads as it did. -/
def nibbleMemoryUptoRow : OpenClaim := { program := "ythfenafhdigniaa", sum := "6fcdbe9d14d8f323111a81d085cdb97dcf8a20af2b41627d6165b65429bd2e6d", func := "cullet/culletlaw06.NibbleMemory", spec := "nibbleMemory", apart := false, narrowed := true }
def NibbleMemoryUptoSaid : Prop := nibbleMemoryUptoRow.holds Try.pinned (OpenSpec.upto nibbleMemorySpec)

/-- 'culletlaw06.NibbleCalls', WHERE WHAT IT READS IS OF BULK AT MOST 1048576: true; the input reads as it did. -/
def nibbleCallsUptoRow : OpenClaim := { program := "ythfenafhdigniaa", sum := "6fcdbe9d14d8f323111a81d085cdb97dcf8a20af2b41627d6165b65429bd2e6d", func := "cullet/culletlaw06.NibbleCalls", spec := "nibbleCalls", apart := false, narrowed := true }
def NibbleCallsUptoSaid : Prop := nibbleCallsUptoRow.holds Try.pinned (OpenSpec.upto nibbleCallsSpec)

/-- 'culletlaw06.NibbleScript', WHERE WHAT IT READS IS OF BULK AT MOST 1048576: true; the input reads as it did. -/
def nibbleScriptUptoRow : OpenClaim := { program := "ythfenafhdigniaa", sum := "6fcdbe9d14d8f323111a81d085cdb97dcf8a20af2b41627d6165b65429bd2e6d", func := "cullet/culletlaw06.NibbleScript", spec := "nibbleScript", apart := false, narrowed := true }
def NibbleScriptUptoSaid : Prop := nibbleScriptUptoRow.holds Try.pinned (OpenSpec.upto nibbleScriptSpec)

/-- 'culletlaw06.NibbleRoom', WHERE WHAT IT READS IS OF BULK AT MOST 1048576: true; the input reads as it did. -/
def nibbleRoomUptoRow : OpenClaim := { program := "ythfenafhdigniaa", sum := "6fcdbe9d14d8f323111a81d085cdb97dcf8a20af2b41627d6165b65429bd2e6d", func := "cullet/culletlaw06.NibbleRoom", spec := "nibbleRoom", apart := false, narrowed := true }
def NibbleRoomUptoSaid : Prop := nibbleRoomUptoRow.holds Try.pinned (OpenSpec.upto nibbleRoomSpec)

/-- 'culletlaw06.NibbleBack', WHERE WHAT IT READS IS OF BULK AT MOST 1048576: true; the input reads as it did. -/
def nibbleBackUptoRow : OpenClaim := { program := "ythfenafhdigniaa", sum := "6fcdbe9d14d8f323111a81d085cdb97dcf8a20af2b41627d6165b65429bd2e6d", func := "cullet/culletlaw06.NibbleBack", spec := "nibbleBack", apart := false, narrowed := true }
def NibbleBackUptoSaid : Prop := nibbleBackUptoRow.holds Try.pinned (OpenSpec.upto nibbleBackSpec)

/-- 'culletlaw06.NibbleTable', WHERE WHAT IT READS IS OF BULK AT MOST 1048576: true; the input reads as it did. -/
def nibbleTableUptoRow : OpenClaim := { program := "ythfenafhdigniaa", sum := "6fcdbe9d14d8f323111a81d085cdb97dcf8a20af2b41627d6165b65429bd2e6d", func := "cullet/culletlaw06.NibbleTable", spec := "nibbleTable", apart := false, narrowed := true }
def NibbleTableUptoSaid : Prop := nibbleTableUptoRow.holds Try.pinned (OpenSpec.upto nibbleTableSpec)

end Rows
end Go.Proofs.Ythfenafhdigniaa
