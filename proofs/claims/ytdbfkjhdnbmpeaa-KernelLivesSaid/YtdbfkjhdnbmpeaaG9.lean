/- Layer 2's other calls (gf8): powers, inverses, quotients, the tables and their methods: each function's contract, by its walk. -/
import Derived.Test.YtdbfkjhdnbmpeaaG8
import Derived.Test.YtdbfkjhdnbmpeaaTb
namespace Go.Proofs.Ytdbfkjhdnbmpeaa.G8
set_option linter.unusedSimpArgs false
set_option linter.unusedVariables false
open Go Go.RowKit Go.Proofs.Ytdbfkjhdnbmpeaa Go.Proofs.Ytdbfkjhdnbmpeaa.Mm Go.Proofs.Ytdbfkjhdnbmpeaa.Tb Go.Proofs.Ytdbfkjhdnbmpeaa.Gf

theorem landi (r : Nat) (h : r < 256) : Go.bits .and .i64 (r : Int) 1 = ((r % 2 : Nat) : Int) := by
  rw [show (1 : Int) = ((1 : Nat) : Int) from rfl, Bt.andi64 (by omega) (by decide), Nat.and_one_is_mod]
theorem sq_step0 (n x r p : Nat) (h : r % 2 = 0) : Gf.sq (n + 1) x r p = Gf.sq n (Gf.gm x x) (r / 2) p := by
  show Gf.sq n _ _ _ = _; rw [if_neg (by omega)]
theorem sq_step1 (n x r p : Nat) (h : r % 2 = 1) : Gf.sq (n + 1) x r p = Gf.sq n (Gf.gm x x) (r / 2) (Gf.gm p x) := by
  show Gf.sq n _ _ _ = _; rw [if_pos h]
theorem sq_zero : ∀ (n x p : Nat), Gf.sq n x 0 p = p
  | 0, _, _ => rfl
  | n + 1, x, p => by rw [sq_step0 _ _ _ _ (by decide)]; exact sq_zero n _ p

theorem tmod_neg (n : Int) (h : n < 0) : Int.tmod n 255 = -((-n) % 255) := by
  rw [show n = -(-n) from by omega, Int.neg_tmod, Int.tmod_eq_emod_of_nonneg (by omega)]
  simp
theorem tmod_cases (n : Int) : (0 ≤ Int.tmod n 255 ∧ Int.tmod n 255 < 255 ∧ n % 255 = Int.tmod n 255) ∨ (Int.tmod n 255 < 0 ∧ -255 < Int.tmod n 255 ∧ n % 255 = Int.tmod n 255 + 255) := by
  by_cases h : n < 0
  · rw [tmod_neg n h]; omega
  · rw [Int.tmod_eq_emod_of_nonneg (by omega)]; omega

set_option maxRecDepth 100000 in
set_option maxHeartbeats 1000000 in
theorem new_calls (w : World) :
    Calls Try.prog 49 #[] w fun e w' => e = .returned (.pointer (some ⟨w.heap.size, 0, none⟩)) ∧ Blk w' w.heap.size 116 tabs ∧ Below w.heap.size w w' := by
  go_enter Try.func49, Try.ntmps49
  go_wp2_with (first | ((with_reducible refine at_slot (N := 4) rfl ?_); refine ev rfl (build_run _ _ (tab 0) rfl (by kernel_rfl)) ?_) | ((with_reducible refine at_slot (N := 5) rfl ?_); refine ev rfl (box_run _ _ _ rfl rfl) ?_))
  go_loopw [2, 6] (fun x i wr => ∃ k : Nat, k ≤ 255 ∧ i = .int .i64 k ∧ x = .int .u8 ((Gf.pw 2 k : Nat) : Int) ∧ Blk wr w.heap.size 116 (tab k) ∧ Below w.heap.size w wr) (fun _ i _ => 255 - (intOf i).toNat)
  case atStart => exact ⟨0, by omega, rfl, rfl, Blk.new _ _ _, (Below.refl _ _).alloc (Nat.le_refl _) _⟩
  case round =>
    obtain ⟨k, hk, rfl, rfl, ht, hb⟩ := hrel
    have hp : Gf.pw 2 k < 256 := Gf.pw_lt (by decide) k
    by_cases hlt : k < 255
    · have h1 := ht.cell (i := k) (tab_get (by omega))
      have h2 := ht.cell (i := k + 255) (tab_get (by omega))
      have h3 := ht.cell (i := 510 + Gf.pw 2 k) (tab_get (by omega))
      have f1 := ht.free (i := k)
      have f2 := ht.free (i := k + 255)
      have f3 := ht.free (i := 510 + Gf.pw 2 k)
      go_wp2_with fail
      go_region
      go_wp2_with (go_at_call 52; refine (mul_calls _ 2 _ hp (by decide)).mono ?_; rintro e w' ⟨rfl, rfl⟩)
      go_roundw
      case rel =>
        clear h1 h2 h3 f1 f2 f3
        exact ⟨k + 1, by omega, by go_num, rfl, by rw [← tab_step hlt]; exact (((ht.set _).set _).set _).drew, (((hb.setCell (Nat.le_refl _) _).setCell (Nat.le_refl _) _).setCell (Nat.le_refl _) _).drew⟩
      case measure => simp [intOf]; omega
    · obtain rfl : k = 255 := by omega
      go_wp2
      go_ret
      exact ⟨rfl, ht, hb⟩

/-- The tables lie at b. -/
abbrev TabsAt (w : World) (b : Nat) : Prop := Blk w b 116 tabs

set_option maxRecDepth 100000 in
set_option maxHeartbeats 1000000 in
theorem tmul_calls (b x y : Nat) (w : World) (ht : TabsAt w b) (hx : x < 256) (hy : y < 256) :
    Calls Try.prog 50 #[.pointer (some ⟨b, 0, none⟩), .int .u8 x, .int .u8 y] w fun e w' => e = .returned (.int .u8 ((Gf.gm x y : Nat) : Int)) ∧ ∃ n, w' = w.drewN n := by
  by_cases hx0 : x = 0
  · subst hx0
    have hd : Hid (Gf.gm 0 y = 0) := Gf.gm_zero_left y
    clear ht
    go_enter Try.func50, Try.ntmps50
    go_wp2
    go_ret
    rw [hd.out]
    exact ⟨rfl, 0, rfl⟩
  · have hx1 : (((x : Nat) : Int) == 0) = false := beq_eq_false_iff_ne.mpr (by omega)
    by_cases hy0 : y = 0
    · subst hy0
      have hd : Hid (Gf.gm x 0 = 0) := Gf.gm_zero_right x
      clear ht hx0
      go_enter Try.func50, Try.ntmps50
      go_wp2
      go_ret
      rw [hd.out]
      exact ⟨rfl, 0, rfl⟩
    · have hy1 : (((y : Nat) : Int) == 0) = false := beq_eq_false_iff_ne.mpr (by omega)
      have h1 := ht.cell (log_at hx)
      have h2 := ht.cell (log_at hy)
      have lx := lg_lt x
      have ly := lg_lt y
      have h3 := ht.cell (exp_at (i := lg x + lg y) (by omega))
      have hd : Hid (Gf.pw 2 ((lg x + lg y) % 255) = Gf.gm x y) := mul_log hx hy hx0 hy0
      generalize lg x = p at *
      generalize lg y = q at *
      have s1 : IntKind.i64.wrap ((p : Int) + (q : Int)) = (p : Int) + (q : Int) := IntWalk.i64_in _ (by omega)
      have s2 : 0 ≤ (p : Int) + (q : Int) := by omega
      have s3 : ((p : Int) + (q : Int)).toNat = p + q := by omega
      have s4 : (p : Int) + (q : Int) < 510 := by omega
      generalize Gf.pw 2 ((p + q) % 255) = z at *
      clear ht hx0 hy0
      go_enter Try.func50, Try.ntmps50
      go_wp2
      go_quiet (fail)
      go_wp2
      go_ret
      rw [← hd.out]
      exact ⟨rfl, _, rfl⟩

end Go.Proofs.Ytdbfkjhdnbmpeaa.G8
