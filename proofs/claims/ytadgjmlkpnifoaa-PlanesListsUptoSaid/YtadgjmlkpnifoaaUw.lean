/- A word among the arguments, as a natural number. -/
import Derived.Test.YtadgjmlkpnifoaaOb
namespace Go.Proofs.Ytadgjmlkpnifoaa.Uw
set_option linter.unusedSimpArgs false
set_option linter.unusedVariables false
open Go Go.RowKit Go.Proofs.Ytadgjmlkpnifoaa

theorem u16_of {x : Int} (h : (Lit.int .u16 x).wf = true) : ∃ a : Nat, x = (a : Int) ∧ a < 65536 := by
  have := St.wf_u16 h
  exact ⟨x.toNat, by omega, by omega⟩
theorem u64_of {x : Int} (h : (Lit.int .u64 x).wf = true) : ∃ a : Nat, x = (a : Int) ∧ a < 18446744073709551616 := by
  have := St.wf_u64 h
  exact ⟨x.toNat, by omega, by omega⟩

end Go.Proofs.Ytadgjmlkpnifoaa.Uw
