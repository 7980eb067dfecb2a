/- Layer 2's tables (gf8): Exp, Log, Inv, Div, Row of tables and of a nil object: each method's contract, by its walk. -/
import Derived.Test.YtgmoaemkdoeeiaaG9
import Derived.Laws.MakeOwn
namespace Go.Proofs.Ytgmoaemkdoeeiaa.G8
set_option linter.unusedSimpArgs false
set_option linter.unusedVariables false
open Go Go.RowKit Go.Proofs.Ytgmoaemkdoeeiaa Go.Proofs.Ytgmoaemkdoeeiaa.Mm Go.Proofs.Ytgmoaemkdoeeiaa.Tb Go.Proofs.Ytgmoaemkdoeeiaa.Gf

theorem tmul_nil (x y : Nat) (w : World) : Calls Try.prog 31 #[.pointer none, .int .u8 x, .int .u8 y] w fun e w' => e = .returned (.int .u8 0) ∧ w = w' := by
  go_enter Try.func31, Try.ntmps31
  go_wp2
  go_ret
  exact ⟨rfl, rfl⟩

end Go.Proofs.Ytgmoaemkdoeeiaa.G8
