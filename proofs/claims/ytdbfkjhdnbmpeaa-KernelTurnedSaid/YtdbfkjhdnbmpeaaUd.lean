/- Layer 9: the law KernelTurned, from what is handed in. -/
import Derived.Test.YtdbfkjhdnbmpeaaUc
namespace Go.Proofs.Ytdbfkjhdnbmpeaa.Sk
set_option linter.unusedSimpArgs false
set_option linter.unusedVariables false
open Go Go.RowKit Go.Proofs.Ytdbfkjhdnbmpeaa Go.Proofs.Ytdbfkjhdnbmpeaa.Mm Go.Proofs.Ytdbfkjhdnbmpeaa.Gf Go.Proofs.Ytdbfkjhdnbmpeaa.Wr Go.Proofs.Ytdbfkjhdnbmpeaa.Nb Go.Proofs.Ytdbfkjhdnbmpeaa.St

theorem turned_walk (cs : Array Value) (x : List (List Nat) × List (List Nat) × List (List Nat) × Int × Int × Int × Unit) (a : Int) (A : Option Addr) (n c : Nat) (l : List Nat) (w : World) (h : kSums.ok w.heap.size w cs.toList x) (_ha : (Lit.int .i64 a).wf = true) (hl : (Kk.kSlice Kk.kByte 1).ok w.heap.size w [.slice A n c] l) :
    Calls Try.prog 5 #[.agg cs, .int .i64 a, .slice A n c] w fun e w' => e = .returned (.bool true) ∧ Below w.heap.size w w' := by
  obtain ⟨rows, srcs, dsts, f, t, u, _⟩ := x
  obtain ⟨e1, _, ecs, _, h1, e2, _, rfl, _, h2, e3, _, rfl, _, h3, e4, _, rfl, _, ⟨rfl, _⟩, e5, _, rfl, _, ⟨rfl, _⟩, e6, _, rfl, _, ⟨rfl, _⟩, h7⟩ := h
  have h7' : _ = [] := h7
  subst h7'
  obtain ⟨A1, c1, rfl, g1, g2, g3⟩ := open_ls9 h1
  obtain ⟨A2, c2, rfl, g4, g5, g6⟩ := open_ls9 h2
  obtain ⟨A3, c3, rfl, g7, g8, g9⟩ := open_ls9 h3
  obtain ⟨k1, k2, _, k4, k5, _⟩ := open_bytes hl
  have ec := arr_of ecs
  subst ec
  exact (turned_calls rfl rfl rfl k1 k2 g1 g2 g3 g4 g5 g6 g7 g8 g9 k4 k5).mono fun _ _ ⟨h, hs⟩ => ⟨h, hs.below⟩

end Go.Proofs.Ytdbfkjhdnbmpeaa.Sk
