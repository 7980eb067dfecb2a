/- The laws of layer 2 over scripts: their walks. -/
import Derived.Test.YtcjbiepdggibaaaL3
namespace Go.Proofs.Ytcjbiepdggibaaa.L2
open Go Go.RowKit Go.Proofs.Ytcjbiepdggibaaa Go.Proofs.Ytcjbiepdggibaaa.Mm Go.Proofs.Ytcjbiepdggibaaa.Gf Go.Proofs.Ytcjbiepdggibaaa.G8

theorem opens_ops : Kk.Opens Try.prog 46 (Kk.kSlice kOp 32) :=
  Kk.opens_slice Try.underlying46 (by kernel_rfl) (by decide) (by kernel_rfl)
    (Kk.opens_struct Try.underlying57 (by kernel_rfl)
      (Kk.opensFs_cons rfl (Kk.opens_int Try.underlying3 (by kernel_rfl)) (Kk.opensFs_cons rfl (Kk.opens_int Try.underlying3 (by kernel_rfl)) (Kk.opensFs_cons rfl (Kk.opens_byte Try.underlying5 (by kernel_rfl)) (Kk.opensFs_cons rfl (Kk.opens_byte Try.underlying5 (by kernel_rfl)) (Kk.opensFs_cons rfl (Kk.opens_int Try.underlying3 (by kernel_rfl)) Kk.opensFs_nil))))))

set_option maxHeartbeats 1000000 in
theorem powers_walk (A : Option Addr) (len c : Nat) (xs : List (Int × Int × Nat × Nat × Int × Unit)) (w : World) (h : (Kk.kSlice kOp 32).ok w.heap.size w [.slice A len c] xs) :
    Calls Try.prog 10 #[.slice A len c] w fun e w' => e = .returned (.bool true) ∧ Below w.heap.size w w' := by
  obtain ⟨A', c', he, _, hm, hr, hrow⟩ := h
  injection he with he _
  injection he with e1 e2 e3
  subst e1 e2 e3
  have hl : xs.length ≤ 9223372036854775807 := by unfold reachBytes at hr; omega
  have HR := Lib.hid hrow
  clear hrow hm hr
  go_enter Try.func10, Try.ntmps10
  go_wp2_with (go_at_call 29; refine (plays_calls A c xs 4 4 _ hl HR.out).mono ?_; rintro e w' ⟨rfl, hb⟩)
  go_ret
  exact ⟨rfl, hb⟩

set_option maxHeartbeats 1000000 in
theorem alls_walk (A : Option Addr) (len c : Nat) (xs : List (Int × Int × Nat × Nat × Int × Unit)) (w : World) (h : (Kk.kSlice kOp 32).ok w.heap.size w [.slice A len c] xs) :
    Calls Try.prog 11 #[.slice A len c] w fun e w' => e = .returned (.bool true) ∧ Below w.heap.size w w' := by
  obtain ⟨A', c', he, _, hm, hr, hrow⟩ := h
  injection he with he _
  injection he with e1 e2 e3
  subst e1 e2 e3
  have hl : xs.length ≤ 9223372036854775807 := by unfold reachBytes at hr; omega
  have HR := Lib.hid hrow
  clear hrow hm hr
  go_enter Try.func11, Try.ntmps11
  go_wp2_with (go_at_call 29; refine (plays_calls A c xs 1 10 _ hl HR.out).mono ?_; rintro e w' ⟨rfl, hb⟩)
  go_ret
  exact ⟨rfl, hb⟩

end Go.Proofs.Ytcjbiepdggibaaa.L2
