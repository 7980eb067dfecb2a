/-
  No cell of these rows narrows 'for every input' (looked for: loops, veiled, ifaces, maps, wideKeys, modest, calm, conditions, laid).
  DERIVED. THE GIVEN ROWS OF THIS SEAT. 7 by the template 'for every input the law returns true; each argument reads behind the call as it read before'; 0 by the template 'total and deterministic' (their statements: YtdbfkjhdnbmpeaaTotals.lean).
  GIVEN WITH THE SEED: the statements are not yours to turn. If you find one false, say at which input.
  Laid BY PROGRAM, IN A SANDBOX (cutbox-rows.mjs): the forced cells as the released guide's own fill.sh prints them over the translation 8fcfa420dabe6688… (all of the seat's roots in one cut). By AI agents, Wed Nov 11 2026. No macro, syntax, notation, axiom, sorry.
-/
import Derived.Test.YtdbfkjhdnbmpeaaChecked
import GoSem.Claim
import GoSem.ClaimJoined
import GoSem.ClaimMapViews
import Derived.JoinedTies
import Derived.KernelRfl
namespace Go.Proofs.Ytdbfkjhdnbmpeaa
/- THE CELL 'sum', in the pinned program and in every row, IS THE sha256 OF THE DUMP (.gsa) THAT YtdbfkjhdnbmpeaaProg.lean LOADS. Nothing in Lean hashes anything: it is a label: what it is worth is what the hold of that sum in a sandbox is worth. -/
noncomputable def Try.pinned : Pinned := { name := "ytdbfkjhdnbmpeaa", sum := "8fcfa420dabe6688274b250606b2748f8b2db96f8d687738dfde2682ad2fc8c9", checked := Try.checked }
namespace Rows
def none {H : Type} : Left H := { results := [], args := [] }

/-- 'culletlaw09.KernelSpans': WHATEVER THE INPUT: true; the input reads as it did. -/
def kernelSpansSpec : ChangeSpec := { name := "kernelSpans", fn := fun _ => fun
  | [d] => { results := [.lit (.bool true)], args := [d] }
  | _ => none }
def kernelSpansRow : OpenClaim := { program := "ytdbfkjhdnbmpeaa", sum := "8fcfa420dabe6688274b250606b2748f8b2db96f8d687738dfde2682ad2fc8c9", func := "cullet/culletlaw09.KernelSpans", spec := "kernelSpans", unfollowed := true, recurses := true, apart := false }
def KernelSpansSaid : Prop := kernelSpansRow.holds Try.pinned (OpenSpec.ofChange kernelSpansSpec)

/-- ITS FALSE NEIGHBOUR: 'it returns false'. Refute it at one input. -/
def kernelSpansWrong : ChangeSpec := { name := "kernelSpans", fn := fun _ => fun
  | [d] => { results := [.lit (.bool false)], args := [d] }
  | _ => none }
def KernelSpansWrongFalsely : Prop := kernelSpansRow.holds Try.pinned (OpenSpec.ofChange kernelSpansWrong)

/-- 'culletlaw09.KernelAlike': WHATEVER THE INPUT: true; the input reads as it did. -/
def kernelAlikeSpec : ChangeSpec := { name := "kernelAlike", fn := fun _ => fun
  | [d] => { results := [.lit (.bool true)], args := [d] }
  | _ => none }
def kernelAlikeRow : OpenClaim := { program := "ytdbfkjhdnbmpeaa", sum := "8fcfa420dabe6688274b250606b2748f8b2db96f8d687738dfde2682ad2fc8c9", func := "cullet/culletlaw09.KernelAlike", spec := "kernelAlike", unfollowed := true, recurses := true, apart := false }
def KernelAlikeSaid : Prop := kernelAlikeRow.holds Try.pinned (OpenSpec.ofChange kernelAlikeSpec)

/-- ITS FALSE NEIGHBOUR: 'it returns false'. Refute it at one input. -/
def kernelAlikeWrong : ChangeSpec := { name := "kernelAlike", fn := fun _ => fun
  | [d] => { results := [.lit (.bool false)], args := [d] }
  | _ => none }
def KernelAlikeWrongFalsely : Prop := kernelAlikeRow.holds Try.pinned (OpenSpec.ofChange kernelAlikeWrong)

/-- 'culletlaw09.KernelTurned': WHATEVER THE INPUT: true; the input reads as it did. -/
def kernelTurnedSpec : ChangeSpec := { name := "kernelTurned", fn := fun _ => fun
  | [d1, d2, d3] => { results := [.lit (.bool true)], args := [d1, d2, d3] }
  | _ => none }
def kernelTurnedRow : OpenClaim := { program := "ytdbfkjhdnbmpeaa", sum := "8fcfa420dabe6688274b250606b2748f8b2db96f8d687738dfde2682ad2fc8c9", func := "cullet/culletlaw09.KernelTurned", spec := "kernelTurned", unfollowed := true, recurses := true, apart := false }
def KernelTurnedSaid : Prop := kernelTurnedRow.holds Try.pinned (OpenSpec.ofChange kernelTurnedSpec)

/-- ITS FALSE NEIGHBOUR: 'it returns false'. Refute it at one input. -/
def kernelTurnedWrong : ChangeSpec := { name := "kernelTurned", fn := fun _ => fun
  | [d1, d2, d3] => { results := [.lit (.bool false)], args := [d1, d2, d3] }
  | _ => none }
def KernelTurnedWrongFalsely : Prop := kernelTurnedRow.holds Try.pinned (OpenSpec.ofChange kernelTurnedWrong)

/-- 'culletlaw09.KernelLives': WHATEVER THE INPUT: true; the input reads as it did. -/
def kernelLivesSpec : ChangeSpec := { name := "kernelLives", fn := fun _ => fun
  | [d1, d2] => { results := [.lit (.bool true)], args := [d1, d2] }
  | _ => none }
def kernelLivesRow : OpenClaim := { program := "ytdbfkjhdnbmpeaa", sum := "8fcfa420dabe6688274b250606b2748f8b2db96f8d687738dfde2682ad2fc8c9", func := "cullet/culletlaw09.KernelLives", spec := "kernelLives", unfollowed := true, recurses := true, apart := false }
def KernelLivesSaid : Prop := kernelLivesRow.holds Try.pinned (OpenSpec.ofChange kernelLivesSpec)

/-- ITS FALSE NEIGHBOUR: 'it returns false'. Refute it at one input. -/
def kernelLivesWrong : ChangeSpec := { name := "kernelLives", fn := fun _ => fun
  | [d1, d2] => { results := [.lit (.bool false)], args := [d1, d2] }
  | _ => none }
def KernelLivesWrongFalsely : Prop := kernelLivesRow.holds Try.pinned (OpenSpec.ofChange kernelLivesWrong)

/-- 'culletlaw09.KernelDots': WHATEVER THE INPUT: true; the input reads as it did. -/
def kernelDotsSpec : ChangeSpec := { name := "kernelDots", fn := fun _ => fun
  | [d] => { results := [.lit (.bool true)], args := [d] }
  | _ => none }
def kernelDotsRow : OpenClaim := { program := "ytdbfkjhdnbmpeaa", sum := "8fcfa420dabe6688274b250606b2748f8b2db96f8d687738dfde2682ad2fc8c9", func := "cullet/culletlaw09.KernelDots", spec := "kernelDots", unfollowed := true, recurses := true, apart := false }
def KernelDotsSaid : Prop := kernelDotsRow.holds Try.pinned (OpenSpec.ofChange kernelDotsSpec)

/-- ITS FALSE NEIGHBOUR: 'it returns false'. Refute it at one input. -/
def kernelDotsWrong : ChangeSpec := { name := "kernelDots", fn := fun _ => fun
  | [d] => { results := [.lit (.bool false)], args := [d] }
  | _ => none }
def KernelDotsWrongFalsely : Prop := kernelDotsRow.holds Try.pinned (OpenSpec.ofChange kernelDotsWrong)

/-- 'culletlaw09.KernelNew': WHATEVER THE INPUT: true; the input reads as it did. -/
def kernelNewSpec : ChangeSpec := { name := "kernelNew", fn := fun _ => fun
  | [d1, d2] => { results := [.lit (.bool true)], args := [d1, d2] }
  | _ => none }
def kernelNewRow : OpenClaim := { program := "ytdbfkjhdnbmpeaa", sum := "8fcfa420dabe6688274b250606b2748f8b2db96f8d687738dfde2682ad2fc8c9", func := "cullet/culletlaw09.KernelNew", spec := "kernelNew", unfollowed := true, recurses := true, apart := false }
def KernelNewSaid : Prop := kernelNewRow.holds Try.pinned (OpenSpec.ofChange kernelNewSpec)

/-- ITS FALSE NEIGHBOUR: 'it returns false'. Refute it at one input. -/
def kernelNewWrong : ChangeSpec := { name := "kernelNew", fn := fun _ => fun
  | [d1, d2] => { results := [.lit (.bool false)], args := [d1, d2] }
  | _ => none }
def KernelNewWrongFalsely : Prop := kernelNewRow.holds Try.pinned (OpenSpec.ofChange kernelNewWrong)

/-- 'culletlaw09.KernelCalls': WHATEVER THE INPUT: true; the input reads as it did. -/
def kernelCallsSpec : ChangeSpec := { name := "kernelCalls", fn := fun _ => fun
  | [d] => { results := [.lit (.bool true)], args := [d] }
  | _ => none }
def kernelCallsRow : OpenClaim := { program := "ytdbfkjhdnbmpeaa", sum := "8fcfa420dabe6688274b250606b2748f8b2db96f8d687738dfde2682ad2fc8c9", func := "cullet/culletlaw09.KernelCalls", spec := "kernelCalls", unfollowed := true, recurses := true, apart := false }
def KernelCallsSaid : Prop := kernelCallsRow.holds Try.pinned (OpenSpec.ofChange kernelCallsSpec)

/-- ITS FALSE NEIGHBOUR: 'it returns false'. Refute it at one input. -/
def kernelCallsWrong : ChangeSpec := { name := "kernelCalls", fn := fun _ => fun
  | [d] => { results := [.lit (.bool false)], args := [d] }
  | _ => none }
def KernelCallsWrongFalsely : Prop := kernelCallsRow.holds Try.pinned (OpenSpec.ofChange kernelCallsWrong)

/- THE SECOND FORM. 'bulk': how many values and letters a reading holds, each counted each time it is reached (what is shared counts as often as it is met; a slice's spare places count too). A statement '..UptoSaid' is the law's where the arguments, and the package variables that the reading takes, are together of bulk at most 1048576: NARROWER than '..Said'. Prove '..Said' where nothing that the law and all that it calls make is longer than what came in: it says more and counts as full. Else prove '..UptoSaid'. A law counts once. -/
mutual
def uptoBulk {H : Type} : DataW H → Nat
  | .lit (.string bytes) => bytes.length + 1
  | .lit _ => 1
  | .nil => 1
  | .ptr d => uptoBulk d + 1
  | .slice elems spare => uptoBulkAll elems + uptoBulkAll spare + 1
  | .agg parts => uptoBulkAll parts + 1
  | .iface _ d => uptoBulk d + 1
  | .map entries => uptoBulkEntries entries + 1
  | .held _ => 1
def uptoBulkAll {H : Type} : List (DataW H) → Nat
  | [] => 0
  | d :: r => uptoBulk d + uptoBulkAll r
def uptoBulkEntries {H : Type} : List (Lit × DataW H) → Nat
  | [] => 0
  | x :: r => uptoBulkEntry x + uptoBulkEntries r
def uptoBulkEntry {H : Type} : Lit × DataW H → Nat
  | (.string bytes, d) => bytes.length + uptoBulk d + 1
  | (_, d) => uptoBulk d + 1
 end
def uptoSmall : (H : Type) → List (DataW H) → Bool := fun _ ds => decide (uptoBulkAll ds ≤ 1048576)
def OpenSpec.upto (s : _root_.Go.ChangeSpec) : _root_.Go.OpenSpec := { _root_.Go.OpenSpec.ofChange s with cond := some uptoSmall }

/-- 'culletlaw09.KernelSpans', WHERE WHAT IT READS IS OF BULK AT MOST 1048576: true; the input reads as it did. -/
def kernelSpansUptoRow : OpenClaim := { program := "ytdbfkjhdnbmpeaa", sum := "8fcfa420dabe6688274b250606b2748f8b2db96f8d687738dfde2682ad2fc8c9", func := "cullet/culletlaw09.KernelSpans", spec := "kernelSpans", unfollowed := true, recurses := true, apart := false, narrowed := true }
def KernelSpansUptoSaid : Prop := kernelSpansUptoRow.holds Try.pinned (OpenSpec.upto kernelSpansSpec)

/-- 'culletlaw09.KernelAlike', WHERE WHAT IT READS IS OF BULK AT MOST 1048576: true; the input reads as it did. -/
def kernelAlikeUptoRow : OpenClaim := { program := "ytdbfkjhdnbmpeaa", sum := "8fcfa420dabe6688274b250606b2748f8b2db96f8d687738dfde2682ad2fc8c9", func := "cullet/culletlaw09.KernelAlike", spec := "kernelAlike", unfollowed := true, recurses := true, apart := false, narrowed := true }
def KernelAlikeUptoSaid : Prop := kernelAlikeUptoRow.holds Try.pinned (OpenSpec.upto kernelAlikeSpec)

/-- 'culletlaw09.KernelTurned', WHERE WHAT IT READS IS OF BULK AT MOST 1048576: true; the input reads as it did. -/
def kernelTurnedUptoRow : OpenClaim := { program := "ytdbfkjhdnbmpeaa", sum := "8fcfa420dabe6688274b250606b2748f8b2db96f8d687738dfde2682ad2fc8c9", func := "cullet/culletlaw09.KernelTurned", spec := "kernelTurned", unfollowed := true, recurses := true, apart := false, narrowed := true }
def KernelTurnedUptoSaid : Prop := kernelTurnedUptoRow.holds Try.pinned (OpenSpec.upto kernelTurnedSpec)

/-- 'culletlaw09.KernelLives', WHERE WHAT IT READS IS OF BULK AT MOST 1048576: true; the input reads as it did. -/
def kernelLivesUptoRow : OpenClaim := { program := "ytdbfkjhdnbmpeaa", sum := "8fcfa420dabe6688274b250606b2748f8b2db96f8d687738dfde2682ad2fc8c9", func := "cullet/culletlaw09.KernelLives", spec := "kernelLives", unfollowed := true, recurses := true, apart := false, narrowed := true }
def KernelLivesUptoSaid : Prop := kernelLivesUptoRow.holds Try.pinned (OpenSpec.upto kernelLivesSpec)

/-- 'culletlaw09.KernelDots', WHERE WHAT IT READS IS OF BULK AT MOST 1048576: true; the input reads as it did. -/
def kernelDotsUptoRow : OpenClaim := { program := "ytdbfkjhdnbmpeaa", sum := "8fcfa420dabe6688274b250606b2748f8b2db96f8d687738dfde2682ad2fc8c9", func := "cullet/culletlaw09.KernelDots", spec := "kernelDots", unfollowed := true, recurses := true, apart := false, narrowed := true }
def KernelDotsUptoSaid : Prop := kernelDotsUptoRow.holds Try.pinned (OpenSpec.upto kernelDotsSpec)

/-- 'culletlaw09.KernelNew', WHERE WHAT IT READS IS OF BULK AT MOST 1048576: true; the input reads as it did. -/
def kernelNewUptoRow : OpenClaim := { program := "ytdbfkjhdnbmpeaa", sum := "8fcfa420dabe6688274b250606b2748f8b2db96f8d687738dfde2682ad2fc8c9", func := "cullet/culletlaw09.KernelNew", spec := "kernelNew", unfollowed := true, recurses := true, apart := false, narrowed := true }
def KernelNewUptoSaid : Prop := kernelNewUptoRow.holds Try.pinned (OpenSpec.upto kernelNewSpec)

/-- 'culletlaw09.KernelCalls', WHERE WHAT IT READS IS OF BULK AT MOST 1048576: true; the input reads as it did. -/
def kernelCallsUptoRow : OpenClaim := { program := "ytdbfkjhdnbmpeaa", sum := "8fcfa420dabe6688274b250606b2748f8b2db96f8d687738dfde2682ad2fc8c9", func := "cullet/culletlaw09.KernelCalls", spec := "kernelCalls", unfollowed := true, recurses := true, apart := false, narrowed := true }
def KernelCallsUptoSaid : Prop := kernelCallsUptoRow.holds Try.pinned (OpenSpec.upto kernelCallsSpec)

end Rows
end Go.Proofs.Ytdbfkjhdnbmpeaa
