/- Layer 2's tables (gf8): Exp, Log, Inv, Div, Row of tables and of a nil object: each method's contract, by its walk. -/
import Derived.Test.YtcjbiepdggibaaaG9
import Derived.Laws.MakeOwn
namespace Go.Proofs.Ytcjbiepdggibaaa.G8
set_option linter.unusedSimpArgs false
set_option linter.unusedVariables false
open Go Go.RowKit Go.Proofs.Ytcjbiepdggibaaa Go.Proofs.Ytcjbiepdggibaaa.Mm Go.Proofs.Ytcjbiepdggibaaa.Tb Go.Proofs.Ytcjbiepdggibaaa.Gf

theorem texp_nil (n : Int) (w : World) : Calls Try.prog 25 #[.pointer none, .int .i64 n] w fun e w' => e = .returned (.int .u8 0) ∧ w = w' := by
  go_enter Try.func25, Try.ntmps25
  go_wp2
  go_ret
  exact ⟨rfl, rfl⟩

theorem tmul_nil (x y : Nat) (w : World) : Calls Try.prog 23 #[.pointer none, .int .u8 x, .int .u8 y] w fun e w' => e = .returned (.int .u8 0) ∧ w = w' := by
  go_enter Try.func23, Try.ntmps23
  go_wp2
  go_ret
  exact ⟨rfl, rfl⟩

theorem tlog_nil (x : Nat) (w : World) : Calls Try.prog 26 #[.pointer none, .int .u8 x] w fun e w' => e = .returned (.tuple #[.int .i64 0, .int .i64 1]) ∧ w = w' := by
  go_enter Try.func26, Try.ntmps26
  go_wp2
  go_ret2
  exact ⟨rfl, rfl⟩

theorem tinv_nil (x : Nat) (w : World) : Calls Try.prog 27 #[.pointer none, .int .u8 x] w fun e w' => e = .returned (.tuple #[.int .u8 0, .int .i64 1]) ∧ w = w' := by
  go_enter Try.func27, Try.ntmps27
  go_wp2
  go_ret2
  exact ⟨rfl, rfl⟩

theorem tdiv_nil (x y : Nat) (w : World) : Calls Try.prog 28 #[.pointer none, .int .u8 x, .int .u8 y] w fun e w' => e = .returned (.tuple #[.int .u8 0, .int .i64 1]) ∧ w = w' := by
  go_enter Try.func28, Try.ntmps28
  go_wp2_with (go_at_call 27; refine (tinv_nil y _).mono ?_; rintro e w' ⟨rfl, rfl⟩)
  go_ret2
  exact ⟨rfl, rfl⟩

theorem trow_nil (x : Nat) (w : World) : Calls Try.prog 20 #[.pointer none, .int .u8 x] w fun e w' => e = .returned (.slice none 0 0) ∧ w = w' := by
  go_enter Try.func20, Try.ntmps20
  go_wp2
  go_ret
  exact ⟨rfl, rfl⟩

set_option maxRecDepth 100000 in
set_option maxHeartbeats 1000000 in
theorem texp_calls (b : Nat) (n : Int) (w : World) (ht : TabsAt w b) :
    Calls Try.prog 25 #[.pointer (some ⟨b, 0, none⟩), .int .i64 n] w fun e w' => e = .returned (.int .u8 ((Gf.pw 2 (n % 255).toNat : Nat) : Int)) ∧ ∃ n, w' = w.drewN n := by
  have h3 := ht.cell (exp_at (i := (n % 255).toNat) (by omega))
  rw [Nat.mod_eq_of_lt (by omega)] at h3
  have s2 : 0 ≤ n % 255 := by omega
  have s4 : n % 255 < 510 := by omega
  clear ht
  go_enter Try.func25, Try.ntmps25
  go_wp2
  go_quiet ((go_at_call 31; exact Calls.quiet_of_same ((remainder_calls n _).mono fun _ _ h => ⟨h.1, h.2.symm⟩)))
  go_wp2
  go_ret
  exact ⟨rfl, _, rfl⟩

set_option maxRecDepth 100000 in
set_option maxHeartbeats 1000000 in
theorem tlog_calls (b x : Nat) (w : World) (ht : TabsAt w b) (hx : x < 256) :
    Calls Try.prog 26 #[.pointer (some ⟨b, 0, none⟩), .int .u8 x] w fun e w' => e = .returned (lo x) ∧ w = w' := by
  by_cases hx0 : x = 0
  · subst hx0
    clear ht
    go_enter Try.func26, Try.ntmps26
    go_wp2
    go_ret2
    exact ⟨rfl, rfl⟩
  · have hx1 : (((x : Nat) : Int) == 0) = false := beq_eq_false_iff_ne.mpr (by omega)
    have hd : Hid (lo x = .tuple #[.int .i64 ((lg x : Nat) : Int), .int .i64 0]) := lo_pos hx0
    have h1 := ht.cell (log_at hx)
    clear ht hx0
    go_enter Try.func26, Try.ntmps26
    go_wp2
    go_ret2
    rw [hd.out]
    exact ⟨rfl, rfl⟩

set_option maxRecDepth 100000 in
set_option maxHeartbeats 1000000 in
theorem tinv_calls (b x : Nat) (w : World) (ht : TabsAt w b) (hx : x < 256) :
    Calls Try.prog 27 #[.pointer (some ⟨b, 0, none⟩), .int .u8 x] w fun e w' => e = .returned (two (iv x)) ∧ ∃ n, w' = w.drewN n := by
  by_cases hx0 : x = 0
  · subst hx0
    clear ht
    go_enter Try.func27, Try.ntmps27
    go_wp2
    go_ret2
    exact ⟨rfl, 0, rfl⟩
  · have hx1 : (((x : Nat) : Int) == 0) = false := beq_eq_false_iff_ne.mpr (by omega)
    have hi : Hid (iv x = (Gf.pw x 254, 0)) := if_neg hx0
    have h1 := ht.cell (log_at hx)
    have lx := lg_lt x
    have h3 := ht.cell (exp_at (i := 255 - lg x) (by omega))
    rw [inv_log hx hx0] at h3
    generalize lg x = p at *
    have s1 : IntKind.i64.wrap (255 - (p : Int)) = 255 - (p : Int) := IntWalk.i64_in _ (by omega)
    have s2 : 0 ≤ 255 - (p : Int) := by omega
    have s3 : (255 - (p : Int)).toNat = 255 - p := by omega
    have s4 : 255 - (p : Int) < 510 := by omega
    clear ht hx0
    go_enter Try.func27, Try.ntmps27
    go_wp2
    go_quiet (fail)
    go_wp2
    go_ret2
    rw [hi.out]
    exact ⟨rfl, _, rfl⟩

set_option maxHeartbeats 1000000 in
theorem tdiv_calls (b x y : Nat) (w : World) (ht : TabsAt w b) (hx : x < 256) (hy : y < 256) :
    Calls Try.prog 28 #[.pointer (some ⟨b, 0, none⟩), .int .u8 x, .int .u8 y] w fun e w' => e = .returned (two (dv x y)) ∧ ∃ n, w' = w.drewN n := by
  by_cases h : y = 0
  · have hi : iv y = (0, 20) := if_pos h
    have hd : Hid (dv x y = (0, 20)) := if_pos h
    clear h
    go_enter Try.func28, Try.ntmps28
    go_wp2_with (go_at_call 27; refine (tinv_calls b y _ ht hy).mono ?_; rintro e w' ⟨rfl, n, rfl⟩; unfold two)
    go_ret2
    rw [hd.out]
    exact ⟨rfl, _, rfl⟩
  · have hi : iv y = (Gf.pw y 254, 0) := if_neg h
    have hd : Hid (dv x y = (Gf.gm x (Gf.pw y 254), 0)) := if_neg h
    have hp := Gf.pw_lt hy 254
    clear h
    go_enter Try.func28, Try.ntmps28
    go_wp2_with (first | (go_at_call 27; refine (tinv_calls b y _ ht hy).mono ?_; rintro e w' ⟨rfl, n, rfl⟩; unfold two) | (go_at_call 23; refine (tmul_calls b x _ _ (by exact ht) hx hp).mono ?_; rintro e w' ⟨rfl, m, rfl⟩))
    go_ret2
    rw [hd.out]
    exact ⟨rfl, _, rfl⟩

end Go.Proofs.Ytcjbiepdggibaaa.G8
