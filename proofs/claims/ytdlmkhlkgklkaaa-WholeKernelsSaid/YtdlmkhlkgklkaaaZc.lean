/- The whole, stage 9: the law WholeKernels, from what is handed in. -/
import Derived.Test.YtdlmkhlkgklkaaaZb
namespace Go.Proofs.Ytdlmkhlkgklkaaa.Sk
set_option linter.unusedSimpArgs false
set_option linter.unusedVariables false
open Go Go.RowKit Go.Proofs.Ytdlmkhlkgklkaaa Go.Proofs.Ytdlmkhlkgklkaaa.Mm Go.Proofs.Ytdlmkhlkgklkaaa.Gf Go.Proofs.Ytdlmkhlkgklkaaa.Wr Go.Proofs.Ytdlmkhlkgklkaaa.Nb Go.Proofs.Ytdlmkhlkgklkaaa.St

theorem whole_walk (c : Nat) (A1 : Option Addr) (n1 c1 : Nat) (l1 : List Nat) (A2 : Option Addr) (n2 c2 : Nat) (l2 : List Nat) (w : World) (hc : c < 256) (h1 : (Kk.kSlice Kk.kByte 1).ok w.heap.size w [.slice A1 n1 c1] l1) (h2 : (Kk.kSlice Kk.kByte 1).ok w.heap.size w [.slice A2 n2 c2] l2) :
    Calls Try.prog 3 #[.int .u8 (c : Int), .slice A1 n1 c1, .slice A2 n2 c2] w fun e w' => e = .returned (.bool true) ∧ Below w.heap.size w w' := by
  obtain ⟨g1, g2, _, g4, g5, _⟩ := open_bytes h1
  obtain ⟨k1, _, _, k4, k5, _⟩ := open_bytes h2
  exact (whole_calls hc g1 k1 g2 g4 k4 g5 k5).mono fun _ _ ⟨h, hs⟩ => ⟨h, hs.below⟩

end Go.Proofs.Ytdlmkhlkgklkaaa.Sk
