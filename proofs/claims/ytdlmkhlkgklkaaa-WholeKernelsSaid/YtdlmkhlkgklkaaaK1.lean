/- The law SlicedNil. -/
import Derived.Test.YtdlmkhlkgklkaaaH7
namespace Go.Proofs.Ytdlmkhlkgklkaaa.Sl
set_option linter.unusedSimpArgs false
set_option linter.unusedVariables false
open Go Go.RowKit Go.Proofs.Ytdlmkhlkgklkaaa Go.Proofs.Ytdlmkhlkgklkaaa.Mm Go.Proofs.Ytdlmkhlkgklkaaa.Gf Go.Proofs.Ytdlmkhlkgklkaaa.Wr Go.Proofs.Ytdlmkhlkgklkaaa.St Go.Proofs.Ytdlmkhlkgklkaaa.Wd

theorem piece_rd {w0 w : World} {W N : List Ent} {b n : Nat} {t : TypeId} {D l : List Nat} (h : St w0 w W N) (m : (⟨b, t, row .u8 D⟩ : Ent) ∈ N) (e : (D.drop 3).take n = l) : Rd w (some ⟨b, 3, none⟩) l := by
  have hr := (h.rd m).piece 3 n
  rw [e] at hr
  exact hr

end Go.Proofs.Ytdlmkhlkgklkaaa.Sl
