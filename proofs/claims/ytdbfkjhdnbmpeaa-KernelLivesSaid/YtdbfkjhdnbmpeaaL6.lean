/- The functions of layer 6's laws (culletlaw06): each one's contract, by its walk. -/
import Derived.Test.YtdbfkjhdnbmpeaaNm
import Derived.Test.YtdbfkjhdnbmpeaaKk
import Derived.Test.YtdbfkjhdnbmpeaaSa
namespace Go.Proofs.Ytdbfkjhdnbmpeaa.L6
set_option linter.unusedSimpArgs false
set_option linter.unusedVariables false
open Go Go.RowKit Go.Proofs.Ytdbfkjhdnbmpeaa Go.Proofs.Ytdbfkjhdnbmpeaa.Mm Go.Proofs.Ytdbfkjhdnbmpeaa.Gf Go.Proofs.Ytdbfkjhdnbmpeaa.Wr Go.Proofs.Ytdbfkjhdnbmpeaa.Nb

theorem wr399 : Wr.wr [9, 9, 9] 0 ([143, 1, 0].map (gm (2 : Int).toNat)) = [3, 2, 0] := by decide +kernel
theorem cells_of {w : World} {b : Nat} {l : List Nat} (h : Bytes w b l) : ∀ i, i < l.length → w.cell? ⟨b, 0 + i, none⟩ = some (.int .u8 ((l.getD i 0 : Nat) : Int)) := fun i hi => by rw [Nat.zero_add]; exact h.cellRow hi

end Go.Proofs.Ytdbfkjhdnbmpeaa.L6
