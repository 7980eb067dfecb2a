/-
  No cell of these rows narrows 'for every input' (looked for: loops, veiled, ifaces, maps, wideKeys, modest, calm, conditions, laid).
  DERIVED. THE GIVEN ROWS OF THIS SEAT. 9 by the template 'for every input the law returns true; each argument reads behind the call as it read before'; 0 by the template 'total and deterministic' (their statements: YtadgjmlkpnifoaaTotals.lean).
  GIVEN WITH THE SEED: the statements are not yours to turn. If you find one false, say at which input.
  Laid BY PROGRAM, IN A SANDBOX (cutbox-rows.mjs): the forced cells as the released guide's own fill.sh prints them over the translation 4d80e5fb33cfad6e… (all of the seat's roots in one cut). By AI agents, Wed Nov 11 2026. No macro, syntax, notation, axiom, sorry.
-/
import Derived.Test.YtadgjmlkpnifoaaChecked
import GoSem.Claim
import GoSem.ClaimJoined
import GoSem.ClaimMapViews
import Derived.JoinedTies
import Derived.KernelRfl
namespace Go.Proofs.Ytadgjmlkpnifoaa
/- THE CELL 'sum', in the pinned program and in every row, IS THE sha256 OF THE DUMP (.gsa) THAT YtadgjmlkpnifoaaProg.lean LOADS. Nothing in Lean hashes anything: it is a label: what it is worth is what the hold of that sum in a sandbox is worth. -/
noncomputable def Try.pinned : Pinned := { name := "ytadgjmlkpnifoaa", sum := "4d80e5fb33cfad6e51c0537be3f29381ae95242284a83b323fb047dde5d4fbb8", checked := Try.checked }
namespace Rows
def none {H : Type} : Left H := { results := [], args := [] }

/-- 'culletlaw08.PlanesNames': WHATEVER THE INPUT: true; the input reads as it did. -/
def planesNamesSpec : ChangeSpec := { name := "planesNames", fn := fun _ => fun
  | [] => { results := [.lit (.bool true)], args := [] }
  | _ => none }
def planesNamesRow : OpenClaim := { program := "ytadgjmlkpnifoaa", sum := "4d80e5fb33cfad6e51c0537be3f29381ae95242284a83b323fb047dde5d4fbb8", func := "cullet/culletlaw08.PlanesNames", spec := "planesNames", apart := false }
def PlanesNamesSaid : Prop := planesNamesRow.holds Try.pinned (OpenSpec.ofChange planesNamesSpec)

/-- ITS FALSE NEIGHBOUR: 'it returns false'. Refute it at one input. -/
def planesNamesWrong : ChangeSpec := { name := "planesNames", fn := fun _ => fun
  | [] => { results := [.lit (.bool false)], args := [] }
  | _ => none }
def PlanesNamesWrongFalsely : Prop := planesNamesRow.holds Try.pinned (OpenSpec.ofChange planesNamesWrong)

/-- 'culletlaw08.PlanesSums': WHATEVER THE INPUT: true; the input reads as it did. -/
def planesSumsSpec : ChangeSpec := { name := "planesSums", fn := fun _ => fun
  | [d1, d2, d3, d4] => { results := [.lit (.bool true)], args := [d1, d2, d3, d4] }
  | _ => none }
def planesSumsRow : OpenClaim := { program := "ytadgjmlkpnifoaa", sum := "4d80e5fb33cfad6e51c0537be3f29381ae95242284a83b323fb047dde5d4fbb8", func := "cullet/culletlaw08.PlanesSums", spec := "planesSums", apart := false }
def PlanesSumsSaid : Prop := planesSumsRow.holds Try.pinned (OpenSpec.ofChange planesSumsSpec)

/-- ITS FALSE NEIGHBOUR: 'it returns false'. Refute it at one input. -/
def planesSumsWrong : ChangeSpec := { name := "planesSums", fn := fun _ => fun
  | [d1, d2, d3, d4] => { results := [.lit (.bool false)], args := [d1, d2, d3, d4] }
  | _ => none }
def PlanesSumsWrongFalsely : Prop := planesSumsRow.holds Try.pinned (OpenSpec.ofChange planesSumsWrong)

/-- 'culletlaw08.PlanesCut': WHATEVER THE INPUT: true; the input reads as it did. -/
def planesCutSpec : ChangeSpec := { name := "planesCut", fn := fun _ => fun
  | [d1, d2, d3] => { results := [.lit (.bool true)], args := [d1, d2, d3] }
  | _ => none }
def planesCutRow : OpenClaim := { program := "ytadgjmlkpnifoaa", sum := "4d80e5fb33cfad6e51c0537be3f29381ae95242284a83b323fb047dde5d4fbb8", func := "cullet/culletlaw08.PlanesCut", spec := "planesCut", apart := false }
def PlanesCutSaid : Prop := planesCutRow.holds Try.pinned (OpenSpec.ofChange planesCutSpec)

/-- ITS FALSE NEIGHBOUR: 'it returns false'. Refute it at one input. -/
def planesCutWrong : ChangeSpec := { name := "planesCut", fn := fun _ => fun
  | [d1, d2, d3] => { results := [.lit (.bool false)], args := [d1, d2, d3] }
  | _ => none }
def PlanesCutWrongFalsely : Prop := planesCutRow.holds Try.pinned (OpenSpec.ofChange planesCutWrong)

/-- 'culletlaw08.PlanesScalars': WHATEVER THE INPUT: true; the input reads as it did. -/
def planesScalarsSpec : ChangeSpec := { name := "planesScalars", fn := fun _ => fun
  | [d1, d2] => { results := [.lit (.bool true)], args := [d1, d2] }
  | _ => none }
def planesScalarsRow : OpenClaim := { program := "ytadgjmlkpnifoaa", sum := "4d80e5fb33cfad6e51c0537be3f29381ae95242284a83b323fb047dde5d4fbb8", func := "cullet/culletlaw08.PlanesScalars", spec := "planesScalars", apart := false }
def PlanesScalarsSaid : Prop := planesScalarsRow.holds Try.pinned (OpenSpec.ofChange planesScalarsSpec)

/-- ITS FALSE NEIGHBOUR: 'it returns false'. Refute it at one input. -/
def planesScalarsWrong : ChangeSpec := { name := "planesScalars", fn := fun _ => fun
  | [d1, d2] => { results := [.lit (.bool false)], args := [d1, d2] }
  | _ => none }
def PlanesScalarsWrongFalsely : Prop := planesScalarsRow.holds Try.pinned (OpenSpec.ofChange planesScalarsWrong)

/-- 'culletlaw08.PlanesBack': WHATEVER THE INPUT: true; the input reads as it did. -/
def planesBackSpec : ChangeSpec := { name := "planesBack", fn := fun _ => fun
  | [d1, d2] => { results := [.lit (.bool true)], args := [d1, d2] }
  | _ => none }
def planesBackRow : OpenClaim := { program := "ytadgjmlkpnifoaa", sum := "4d80e5fb33cfad6e51c0537be3f29381ae95242284a83b323fb047dde5d4fbb8", func := "cullet/culletlaw08.PlanesBack", spec := "planesBack", apart := false }
def PlanesBackSaid : Prop := planesBackRow.holds Try.pinned (OpenSpec.ofChange planesBackSpec)

/-- ITS FALSE NEIGHBOUR: 'it returns false'. Refute it at one input. -/
def planesBackWrong : ChangeSpec := { name := "planesBack", fn := fun _ => fun
  | [d1, d2] => { results := [.lit (.bool false)], args := [d1, d2] }
  | _ => none }
def PlanesBackWrongFalsely : Prop := planesBackRow.holds Try.pinned (OpenSpec.ofChange planesBackWrong)

/-- 'culletlaw08.PlanesRound': WHATEVER THE INPUT: true; the input reads as it did. -/
def planesRoundSpec : ChangeSpec := { name := "planesRound", fn := fun _ => fun
  | [d1, d2] => { results := [.lit (.bool true)], args := [d1, d2] }
  | _ => none }
def planesRoundRow : OpenClaim := { program := "ytadgjmlkpnifoaa", sum := "4d80e5fb33cfad6e51c0537be3f29381ae95242284a83b323fb047dde5d4fbb8", func := "cullet/culletlaw08.PlanesRound", spec := "planesRound", apart := false }
def PlanesRoundSaid : Prop := planesRoundRow.holds Try.pinned (OpenSpec.ofChange planesRoundSpec)

/-- ITS FALSE NEIGHBOUR: 'it returns false'. Refute it at one input. -/
def planesRoundWrong : ChangeSpec := { name := "planesRound", fn := fun _ => fun
  | [d1, d2] => { results := [.lit (.bool false)], args := [d1, d2] }
  | _ => none }
def PlanesRoundWrongFalsely : Prop := planesRoundRow.holds Try.pinned (OpenSpec.ofChange planesRoundWrong)

/-- 'culletlaw08.PlanesPacks': WHATEVER THE INPUT: true; the input reads as it did. -/
def planesPacksSpec : ChangeSpec := { name := "planesPacks", fn := fun _ => fun
  | [d] => { results := [.lit (.bool true)], args := [d] }
  | _ => none }
def planesPacksRow : OpenClaim := { program := "ytadgjmlkpnifoaa", sum := "4d80e5fb33cfad6e51c0537be3f29381ae95242284a83b323fb047dde5d4fbb8", func := "cullet/culletlaw08.PlanesPacks", spec := "planesPacks", apart := false }
def PlanesPacksSaid : Prop := planesPacksRow.holds Try.pinned (OpenSpec.ofChange planesPacksSpec)

/-- ITS FALSE NEIGHBOUR: 'it returns false'. Refute it at one input. -/
def planesPacksWrong : ChangeSpec := { name := "planesPacks", fn := fun _ => fun
  | [d] => { results := [.lit (.bool false)], args := [d] }
  | _ => none }
def PlanesPacksWrongFalsely : Prop := planesPacksRow.holds Try.pinned (OpenSpec.ofChange planesPacksWrong)

/-- 'culletlaw08.PlanesAlls': WHATEVER THE INPUT: true; the input reads as it did. -/
def planesAllsSpec : ChangeSpec := { name := "planesAlls", fn := fun _ => fun
  | [d] => { results := [.lit (.bool true)], args := [d] }
  | _ => none }
def planesAllsRow : OpenClaim := { program := "ytadgjmlkpnifoaa", sum := "4d80e5fb33cfad6e51c0537be3f29381ae95242284a83b323fb047dde5d4fbb8", func := "cullet/culletlaw08.PlanesAlls", spec := "planesAlls", apart := false }
def PlanesAllsSaid : Prop := planesAllsRow.holds Try.pinned (OpenSpec.ofChange planesAllsSpec)

/-- ITS FALSE NEIGHBOUR: 'it returns false'. Refute it at one input. -/
def planesAllsWrong : ChangeSpec := { name := "planesAlls", fn := fun _ => fun
  | [d] => { results := [.lit (.bool false)], args := [d] }
  | _ => none }
def PlanesAllsWrongFalsely : Prop := planesAllsRow.holds Try.pinned (OpenSpec.ofChange planesAllsWrong)

/-- 'culletlaw08.PlanesLists': WHATEVER THE INPUT: true; the input reads as it did. -/
def planesListsSpec : ChangeSpec := { name := "planesLists", fn := fun _ => fun
  | [d1, d2, d3] => { results := [.lit (.bool true)], args := [d1, d2, d3] }
  | _ => none }
def planesListsRow : OpenClaim := { program := "ytadgjmlkpnifoaa", sum := "4d80e5fb33cfad6e51c0537be3f29381ae95242284a83b323fb047dde5d4fbb8", func := "cullet/culletlaw08.PlanesLists", spec := "planesLists", apart := false }
def PlanesListsSaid : Prop := planesListsRow.holds Try.pinned (OpenSpec.ofChange planesListsSpec)

/-- ITS FALSE NEIGHBOUR: 'it returns false'. Refute it at one input. -/
def planesListsWrong : ChangeSpec := { name := "planesLists", fn := fun _ => fun
  | [d1, d2, d3] => { results := [.lit (.bool false)], args := [d1, d2, d3] }
  | _ => none }
def PlanesListsWrongFalsely : Prop := planesListsRow.holds Try.pinned (OpenSpec.ofChange planesListsWrong)

/- THE SECOND FORM. 'bulk': how many values and letters a reading holds, each counted each time it is reached (what is shared counts as often as it is met; a slice's spare places count too). A statement '..UptoSaid' is the law's where the arguments, and the package variables that the reading takes, are together of bulk at most 1048576: NARROWER than '..Said'. Prove '..Said' where nothing that the law and all that it calls make is longer than what came in: it says more and counts as full. Else prove '..UptoSaid'. A law counts once. -/
mutual
def uptoBulk {H : Type} : DataW H → Nat
  | .lit (.string bytes) => bytes.length + 1
  | .lit _ => 1
  | .nil => 1
  | .ptr d => uptoBulk d + 1
  | .slice elems spare => uptoBulkAll elems + uptoBulkAll spare + 1
  | .agg parts => uptoBulkAll parts + 1
  | .iface _ d => uptoBulk d + 1
  | .map entries => uptoBulkEntries entries + 1
  | .held _ => 1
def uptoBulkAll {H : Type} : List (DataW H) → Nat
  | [] => 0
  | d :: r => uptoBulk d + uptoBulkAll r
def uptoBulkEntries {H : Type} : List (Lit × DataW H) → Nat
  | [] => 0
  | x :: r => uptoBulkEntry x + uptoBulkEntries r
def uptoBulkEntry {H : Type} : Lit × DataW H → Nat
  | (.string bytes, d) => bytes.length + uptoBulk d + 1
  | (_, d) => uptoBulk d + 1
 end
def uptoSmall : (H : Type) → List (DataW H) → Bool := fun _ ds => decide (uptoBulkAll ds ≤ 1048576)
def OpenSpec.upto (s : _root_.Go.ChangeSpec) : _root_.Go.OpenSpec := { _root_.Go.OpenSpec.ofChange s with cond := some uptoSmall }

/-- 'culletlaw08.PlanesNames', WHERE WHAT IT READS IS OF BULK AT MOST 1048576: true; the input reads as it did. -/
def planesNamesUptoRow : OpenClaim := { program := "ytadgjmlkpnifoaa", sum := "4d80e5fb33cfad6e51c0537be3f29381ae95242284a83b323fb047dde5d4fbb8", func := "cullet/culletlaw08.PlanesNames", spec := "planesNames", apart := false, narrowed := true }
def PlanesNamesUptoSaid : Prop := planesNamesUptoRow.holds Try.pinned (OpenSpec.upto planesNamesSpec)

/-- 'culletlaw08.PlanesSums', WHERE WHAT IT READS IS OF BULK AT MOST 1048576: true; the input reads as it did. -/
def planesSumsUptoRow : OpenClaim := { program := "ytadgjmlkpnifoaa", sum := "4d80e5fb33cfad6e51c0537be3f29381ae95242284a83b323fb047dde5d4fbb8", func := "cullet/culletlaw08.PlanesSums", spec := "planesSums", apart := false, narrowed := true }
def PlanesSumsUptoSaid : Prop := planesSumsUptoRow.holds Try.pinned (OpenSpec.upto planesSumsSpec)

/-- 'culletlaw08.PlanesCut', WHERE WHAT IT READS IS OF BULK AT MOST 1048576: true; the input reads as it did. -/
def planesCutUptoRow : OpenClaim := { program := "ytadgjmlkpnifoaa", sum := "4d80e5fb33cfad6e51c0537be3f29381ae95242284a83b323fb047dde5d4fbb8", func := "cullet/culletlaw08.PlanesCut", spec := "planesCut", apart := false, narrowed := true }
def PlanesCutUptoSaid : Prop := planesCutUptoRow.holds Try.pinned (OpenSpec.upto planesCutSpec)

/-- 'culletlaw08.PlanesScalars', WHERE WHAT IT READS IS OF BULK AT MOST 1048576: true; the input reads as it did. -/
def planesScalarsUptoRow : OpenClaim := { program := "ytadgjmlkpnifoaa", sum := "4d80e5fb33cfad6e51c0537be3f29381ae95242284a83b323fb047dde5d4fbb8", func := "cullet/culletlaw08.PlanesScalars", spec := "planesScalars", apart := false, narrowed := true }
def PlanesScalarsUptoSaid : Prop := planesScalarsUptoRow.holds Try.pinned (OpenSpec.upto planesScalarsSpec)

/-- 'culletlaw08.PlanesBack', WHERE WHAT IT READS IS OF BULK AT MOST 1048576: true; the input reads as it did. -/
def planesBackUptoRow : OpenClaim := { program := "ytadgjmlkpnifoaa", sum := "4d80e5fb33cfad6e51c0537be3f29381ae95242284a83b323fb047dde5d4fbb8", func := "cullet/culletlaw08.PlanesBack", spec := "planesBack", apart := false, narrowed := true }
def PlanesBackUptoSaid : Prop := planesBackUptoRow.holds Try.pinned (OpenSpec.upto planesBackSpec)

/-- 'culletlaw08.PlanesRound', WHERE WHAT IT READS IS OF BULK AT MOST 1048576: true; the input reads as it did. -/
def planesRoundUptoRow : OpenClaim := { program := "ytadgjmlkpnifoaa", sum := "4d80e5fb33cfad6e51c0537be3f29381ae95242284a83b323fb047dde5d4fbb8", func := "cullet/culletlaw08.PlanesRound", spec := "planesRound", apart := false, narrowed := true }
def PlanesRoundUptoSaid : Prop := planesRoundUptoRow.holds Try.pinned (OpenSpec.upto planesRoundSpec)

/-- 'culletlaw08.PlanesPacks', WHERE WHAT IT READS IS OF BULK AT MOST 1048576: true; the input reads as it did. -/
def planesPacksUptoRow : OpenClaim := { program := "ytadgjmlkpnifoaa", sum := "4d80e5fb33cfad6e51c0537be3f29381ae95242284a83b323fb047dde5d4fbb8", func := "cullet/culletlaw08.PlanesPacks", spec := "planesPacks", apart := false, narrowed := true }
def PlanesPacksUptoSaid : Prop := planesPacksUptoRow.holds Try.pinned (OpenSpec.upto planesPacksSpec)

/-- 'culletlaw08.PlanesAlls', WHERE WHAT IT READS IS OF BULK AT MOST 1048576: true; the input reads as it did. -/
def planesAllsUptoRow : OpenClaim := { program := "ytadgjmlkpnifoaa", sum := "4d80e5fb33cfad6e51c0537be3f29381ae95242284a83b323fb047dde5d4fbb8", func := "cullet/culletlaw08.PlanesAlls", spec := "planesAlls", apart := false, narrowed := true }
def PlanesAllsUptoSaid : Prop := planesAllsUptoRow.holds Try.pinned (OpenSpec.upto planesAllsSpec)

/-- 'culletlaw08.PlanesLists', WHERE WHAT IT READS IS OF BULK AT MOST 1048576: true; the input reads as it did. -/
def planesListsUptoRow : OpenClaim := { program := "ytadgjmlkpnifoaa", sum := "4d80e5fb33cfad6e51c0537be3f29381ae95242284a83b323fb047dde5d4fbb8", func := "cullet/culletlaw08.PlanesLists", spec := "planesLists", apart := false, narrowed := true }
def PlanesListsUptoSaid : Prop := planesListsUptoRow.holds Try.pinned (OpenSpec.upto planesListsSpec)

end Rows
end Go.Proofs.Ytadgjmlkpnifoaa
