/- The functions of layer 2's laws (culletlaw02): each one's contract, by its walk. -/
import Derived.Test.YtcjbiepdggibaaaR3
import Derived.Test.YtcjbiepdggibaaaKk
namespace Go.Proofs.Ytcjbiepdggibaaa.L2
set_option linter.unusedSimpArgs false
set_option linter.unusedVariables false
open Go Go.RowKit Go.Proofs.Ytcjbiepdggibaaa Go.Proofs.Ytcjbiepdggibaaa.Mm Go.Proofs.Ytcjbiepdggibaaa.Gf

set_option maxRecDepth 100000 in
set_option maxHeartbeats 1000000 in
theorem awake_calls (w : World) : Calls Try.prog 12 #[] w fun e w' => e = .returned (.bool true) ∧ w = w' := by
  have h1 : iv 2 = (142, 0) := by decide +kernel
  have h2 : gm 3 7 = 9 := by decide +kernel
  have h3 : gm 2 128 = 29 := by decide +kernel
  have g1 : iv ((2 : Nat)) = (142, 0) := h1
  go_enter Try.func12, Try.ntmps12
  go_wp2_with (first | (go_at_call 15; refine (G8.inv_calls 2 _ (by decide)).mono ?_; rintro e w' ⟨rfl, rfl⟩; unfold two) | (go_at_call 13; refine (G8.mul_any _ _ _ (by decide) (by decide) (by decide) (by decide)).mono ?_; rintro e w' ⟨rfl, rfl⟩))
  go_ret
  exact ⟨rfl, rfl⟩

set_option maxRecDepth 100000 in
set_option maxHeartbeats 1000000 in
theorem same_calls (A1 A2 : Option Addr) (m c1 c2 : Nat) (l : List Nat) (w : World) (hm : l.length = m) (hl : m ≤ 9223372036854775807) (h1 : Rd w A1 l) (h2 : Rd w A2 l) :
    Calls Try.prog 19 #[.slice A1 m c1, .slice A2 m c2] w fun e w' => e = .returned (.bool true) ∧ ∃ n, w' = w.drewN n := by
  subst hm
  have H1 := Lib.hid h1; have H2 := Lib.hid h2
  clear h1 h2
  go_enter Try.func19, Try.ntmps19
  go_wp2
  go_loopw [5] (fun vi wr => ∃ i n : Nat, i ≤ l.length ∧ vi = .int .i64 i ∧ wr = w.drewN n) (fun vi _ => l.length - (intOf vi).toNat)
  case atStart => exact ⟨0, 0, by omega, rfl, rfl⟩
  case round =>
    obtain ⟨i, n, hi, rfl, rfl⟩ := hrel
    by_cases hlt : i < l.length
    · obtain ⟨b1, o1, e1, k1⟩ := H1.out (by omega)
      obtain ⟨b2, o2, e2, k2⟩ := H2.out (by omega)
      subst e1 e2
      have m1 := k1 i hlt
      have m2 := k2 i hlt
      clear k1 k2 H1 H2
      go_wp2
      go_quiet (fail)
      go_wp2
      go_roundw
      case rel => exact ⟨i + 1, _, by omega, by go_num, rfl⟩
      case measure => simp [intOf]; omega
    · clear H1 H2
      go_wp2
      go_ret
      exact ⟨rfl, n, rfl⟩

/-- A step of a script as a value. -/
def opV (k o : Int) (a b : Nat) (n : Int) : Value := .agg #[.int .i64 k, .int .i64 o, .int .u8 (a : Int), .int .u8 (b : Int), .int .i64 n]

set_option maxRecDepth 100000 in
set_option maxHeartbeats 4000000 in
theorem plain_calls (k o : Int) (a b : Nat) (n : Int) (w : World) (ha : a < 256) (hb : b < 256) :
    Calls Try.prog 32 #[opV k o a b n] w fun e w' => e = .returned (.bool true) ∧ Below w.heap.size w w' := by
  unfold opV
  by_cases h1 : k = 1
  · subst h1
    go_enter Try.func32, Try.ntmps32
    go_wp2
    go_quiet ((first | (go_at_call 13; exact Calls.quiet_of_same ((G8.mul_calls a b _ ha hb).mono fun _ _ h => ⟨h.1, h.2.symm⟩)) | (go_at_call 24; exact Calls.quiet_of_same ((R2.mul_calls a b _ ha hb).mono fun _ _ h => ⟨h.1, h.2.symm⟩))))
    go_wp2
    go_ret
    exact ⟨rfl, ((Below.refl _ _).alloc (Nat.le_refl _) _).drewN'⟩
  · have g1 : (k == 1) = false := beq_eq_false_iff_ne.mpr h1
    clear h1
    by_cases h2 : k = 2
    · subst h2
      go_enter Try.func32, Try.ntmps32
      go_wp2_with (first | (go_at_call 15; refine (G8.inv_calls a _ ha).mono ?_; rintro e w' ⟨rfl, rfl⟩; unfold two) | (go_at_call 35; refine (R2.inv_calls a _ ha).mono ?_; rintro e w' ⟨rfl, rfl⟩; unfold two))
      go_ret
      exact ⟨rfl, (Below.refl _ _).alloc (Nat.le_refl _) _⟩
    · have g2 : (k == 2) = false := beq_eq_false_iff_ne.mpr h2
      clear h2
      by_cases h3 : k = 3
      · subst h3
        go_enter Try.func32, Try.ntmps32
        go_wp2_with (first | (go_at_call 16; refine (G8.div_calls a b _ ha hb).mono ?_; rintro e w' ⟨rfl, rfl⟩; unfold two) | (go_at_call 36; refine (R2.div_calls a b _ ha hb).mono ?_; rintro e w' ⟨rfl, rfl⟩; unfold two))
        go_ret
        exact ⟨rfl, (Below.refl _ _).alloc (Nat.le_refl _) _⟩
      · have g3 : (k == 3) = false := beq_eq_false_iff_ne.mpr h3
        clear h3
        by_cases h4 : k = 4
        · subst h4
          go_enter Try.func32, Try.ntmps32
          go_wp2_with (first | (go_at_call 17; refine (G8.pow_calls a n _ ha).mono ?_; rintro e w' ⟨rfl, rfl⟩; unfold two) | (go_at_call 37; refine (R2.pow_calls a n _ ha).mono ?_; rintro e w' ⟨rfl, rfl⟩; unfold two))
          go_ret
          exact ⟨rfl, (Below.refl _ _).alloc (Nat.le_refl _) _⟩
        · have g4 : (k == 4) = false := beq_eq_false_iff_ne.mpr h4
          clear h4
          go_enter Try.func32, Try.ntmps32
          go_wp2
          go_ret
          exact ⟨rfl, (Below.refl _ _).alloc (Nat.le_refl _) _⟩

end Go.Proofs.Ytcjbiepdggibaaa.L2
