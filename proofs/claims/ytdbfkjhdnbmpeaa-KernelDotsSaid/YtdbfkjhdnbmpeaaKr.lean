/- Layer 9: the law KernelDots, from what is handed in. -/
import Derived.Test.YtdbfkjhdnbmpeaaKv
import Derived.Test.YtdbfkjhdnbmpeaaKw
namespace Go.Proofs.Ytdbfkjhdnbmpeaa.Sk
set_option linter.unusedSimpArgs false
set_option linter.unusedVariables false
open Go Go.RowKit Go.Proofs.Ytdbfkjhdnbmpeaa Go.Proofs.Ytdbfkjhdnbmpeaa.Mm Go.Proofs.Ytdbfkjhdnbmpeaa.Gf Go.Proofs.Ytdbfkjhdnbmpeaa.Wr Go.Proofs.Ytdbfkjhdnbmpeaa.Nb Go.Proofs.Ytdbfkjhdnbmpeaa.St

theorem dots_walk (cs : Array Value) (x : List Nat × List Nat × List (List Nat) × Nat × Unit) (w : World) (h : kDots.ok w.heap.size w cs.toList x) :
    Calls Try.prog 7 #[.agg cs] w fun e w' => e = .returned (.bool true) ∧ Below w.heap.size w w' := by
  obtain ⟨row, other, srcs, fill, _⟩ := x
  obtain ⟨d1, _, ecs, _, h1, d2, _, rfl, _, h2, d3, _, rfl, _, h3, d4, _, rfl, _, ⟨rfl, hf⟩, h5⟩ := h
  have h5' : _ = [] := h5
  subst h5'
  obtain ⟨A1, c1, rfl, g1, _, g2, g3⟩ := open_bs9 h1
  obtain ⟨A2, c2, rfl, g4, _, g5, g6⟩ := open_bs9 h2
  obtain ⟨A3, c3, rfl, g7, g8, g9⟩ := open_ls9 h3
  have ec := arr_of ecs
  subst ec
  exact (dots_calls rfl rfl rfl g1 g4 g8 g3 g6 g9 g2 g5 g7 hf).mono fun _ _ ⟨h, hs⟩ => ⟨h, hs.below⟩

end Go.Proofs.Ytdbfkjhdnbmpeaa.Sk
