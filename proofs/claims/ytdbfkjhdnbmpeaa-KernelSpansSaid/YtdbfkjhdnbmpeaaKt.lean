/- Layer 9: the law KernelSpans, from what is handed in. -/
import Derived.Test.YtdbfkjhdnbmpeaaKy
namespace Go.Proofs.Ytdbfkjhdnbmpeaa.Sk
set_option linter.unusedSimpArgs false
set_option linter.unusedVariables false
open Go Go.RowKit Go.Proofs.Ytdbfkjhdnbmpeaa Go.Proofs.Ytdbfkjhdnbmpeaa.Mm Go.Proofs.Ytdbfkjhdnbmpeaa.Gf Go.Proofs.Ytdbfkjhdnbmpeaa.Wr Go.Proofs.Ytdbfkjhdnbmpeaa.Nb Go.Proofs.Ytdbfkjhdnbmpeaa.St

theorem spans_walk (cs : Array Value) (x : (List (List Nat) × List (List Nat) × List (List Nat) × Int × Int × Int × Unit) × Int × Int × Nat × Unit) (w : World) (h : kTurn.ok w.heap.size w cs.toList x) :
    Calls Try.prog 3 #[.agg cs] w fun e w' => e = .returned (.bool true) ∧ Below w.heap.size w w' := by
  obtain ⟨⟨rows, srcs, dsts, f, t, u, _⟩, ri, pl, tb, _⟩ := x
  obtain ⟨d1, _, ecs, _, ⟨e1, _, rfl, _, h1, e2, _, rfl, _, h2, e3, _, rfl, _, h3, e4, _, rfl, _, ⟨rfl, _⟩, e5, _, rfl, _, ⟨rfl, _⟩, e6, _, rfl, _, ⟨rfl, _⟩, h7⟩, d2, _, rfl, _, ⟨rfl, _⟩, d3, _, rfl, _, ⟨rfl, _⟩, d4, _, rfl, _, ⟨rfl, hb⟩, h9⟩ := h
  have h7' : _ = [] := h7
  have h9' : _ = [] := h9
  subst h7' h9'
  obtain ⟨A1, c1, rfl, g1, g2, g3⟩ := open_ls9 h1
  obtain ⟨A2, c2, rfl, g4, g5, g6⟩ := open_ls9 h2
  obtain ⟨A3, c3, rfl, g7, g8, g9⟩ := open_ls9 h3
  have ec := arr_of ecs
  subst ec
  exact (spans_calls rfl rfl rfl g1 g2 g3 g4 g5 g6 g7 g8 g9 hb).mono fun _ _ ⟨h, hs⟩ => ⟨h, hs.below⟩

end Go.Proofs.Ytdbfkjhdnbmpeaa.Sk
