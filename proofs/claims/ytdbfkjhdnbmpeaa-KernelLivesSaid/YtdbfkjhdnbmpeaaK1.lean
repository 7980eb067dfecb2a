/- The law SlicedNil. -/
import Derived.Test.YtdbfkjhdnbmpeaaH7
namespace Go.Proofs.Ytdbfkjhdnbmpeaa.Sl
set_option linter.unusedSimpArgs false
set_option linter.unusedVariables false
open Go Go.RowKit Go.Proofs.Ytdbfkjhdnbmpeaa Go.Proofs.Ytdbfkjhdnbmpeaa.Mm Go.Proofs.Ytdbfkjhdnbmpeaa.Gf Go.Proofs.Ytdbfkjhdnbmpeaa.Wr Go.Proofs.Ytdbfkjhdnbmpeaa.St Go.Proofs.Ytdbfkjhdnbmpeaa.Wd

theorem piece_rd {w0 w : World} {W N : List Ent} {b n : Nat} {t : TypeId} {D l : List Nat} (h : St w0 w W N) (m : (⟨b, t, row .u8 D⟩ : Ent) ∈ N) (e : (D.drop 3).take n = l) : Rd w (some ⟨b, 3, none⟩) l := by
  have hr := (h.rd m).piece 3 n
  rw [e] at hr
  exact hr

end Go.Proofs.Ytdbfkjhdnbmpeaa.Sl
