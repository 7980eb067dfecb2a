/- Layer 2's calls (gf8): each function's contract, by its walk. -/
import Derived.Test.YtdbfkjhdnbmpeaaProg
import Derived.Test.YtdbfkjhdnbmpeaaMm
import Derived.Test.YtdbfkjhdnbmpeaaGf
import Derived.Test.YtdbfkjhdnbmpeaaBt
namespace Go.Proofs.Ytdbfkjhdnbmpeaa.G8
set_option linter.unusedSimpArgs false
set_option linter.unusedVariables false
open Go Go.RowKit Go.Proofs.Ytdbfkjhdnbmpeaa Go.Proofs.Ytdbfkjhdnbmpeaa.Mm

theorem land1 (b : Nat) (h : b < 256) : Go.bits .and .u8 (b : Int) 1 = ((b % 2 : Nat) : Int) := by
  rw [show (1 : Int) = ((1 : Nat) : Int) from rfl, Bt.and8 h (by decide), Nat.and_one_is_mod]
theorem land256 (a : Nat) (h : a < 256) : Go.bits .and .u64 (2 * (a : Int)) 256 = if a < 128 then 0 else 256 := by
  rw [show 2 * (a : Int) = ((2 * a : Nat) : Int) from by omega, show (256 : Int) = ((256 : Nat) : Int) from rfl, Bt.and64 (by omega) (by decide)]
  have hh : ∀ x : Fin 256, ((2 * x.val) &&& 256 = if x.val < 128 then 0 else 256) := by decide +kernel
  have := hh ⟨a, h⟩
  simp only at this
  rw [this]; split <;> rfl
theorem dbl (a : Nat) (h : a < 256) : IntKind.u64.wrap ((a : Int) * 2) = 2 * (a : Int) := by
  rw [Bt.wrap_u64 _ (by omega) (by omega)]; omega
theorem xt_lo (a : Nat) (h : a < 128) : Value.int .u64 (2 * (a : Int)) = .int .u64 ((Gf.xt a : Nat) : Int) := by unfold Gf.xt; rw [if_pos h]; congr 1
theorem xt_hi (a : Nat) (h : ¬ a < 128) (h' : a < 256) : Go.bits .xor .u64 (2 * (a : Int)) 285 = ((Gf.xt a : Nat) : Int) := by
  rw [show 2 * (a : Int) = ((2 * a : Nat) : Int) from by omega, show (285 : Int) = ((285 : Nat) : Int) from rfl, Bt.xor64 (by omega) (by decide)]
  unfold Gf.xt; rw [if_neg h]

theorem ml_step0 (n x b p : Nat) (h : b % 2 = 0) : Gf.ml (n + 1) x b p = Gf.ml n (Gf.xt x) (b / 2) p := by
  show Gf.ml n _ _ _ = _; rw [if_neg (by omega)]
theorem ml_step1 (n x b p : Nat) (h : b % 2 = 1) : Gf.ml (n + 1) x b p = Gf.ml n (Gf.xt x) (b / 2) (p ^^^ x) := by
  show Gf.ml n _ _ _ = _; rw [if_pos h]

set_option maxRecDepth 100000 in
set_option maxHeartbeats 1000000 in
theorem mul_calls (a b : Nat) (w : World) (ha : a < 256) (hb : b < 256) :
    Calls Try.prog 52 #[.int .u8 a, .int .u8 b] w fun e w' => e = .returned (.int .u8 ((Gf.gm a b : Nat) : Int)) ∧ w = w' := by
  have w0 : IntKind.u64.wrap (a : Int) = a := Bt.wrap_u64 _ (by omega) (by omega)
  go_enter Try.func52, Try.ntmps52
  go_wp2
  go_loop [1, 5, 6] (fun vb vx vp => ∃ n b' x p : Nat, vb = .int .u8 b' ∧ vx = .int .u64 x ∧ vp = .int .u64 p ∧ b' < 2 ^ n ∧ b' < 256 ∧ x < 256 ∧ p < 256 ∧ Gf.gm a b = Gf.ml n x b' p) (fun vb _ _ => (intOf vb).toNat)
  case atStart => exact ⟨8, b, a, 0, rfl, rfl, rfl, by simpa using hb, hb, ha, by decide, rfl⟩
  case round =>
    clear w0
    obtain ⟨n, b', x, p, rfl, rfl, rfl, hn, hb', hx, hp, heq⟩ := hrel
    have HEQ := Lib.hid heq; have HN := Lib.hid hn
    clear heq hn
    have hxx := Gf.xt_lt hx
    by_cases h0 : b' = 0
    · subst h0
      go_wp2
      go_ret
      have := HEQ.out
      rw [Gf.ml_zero_right] at this
      refine ⟨?_, rfl⟩
      rw [this]
      congr 2
    · have h0' : (((b' : Nat) : Int) == 0) = false := beq_eq_false_iff_ne.mpr (by omega)
      have hpos : 0 < b' := by omega
      obtain ⟨n, rfl⟩ : ∃ m, n = m + 1 := by
        refine ⟨n - 1, ?_⟩
        have := HN.out
        cases n with
        | zero => simp at this; omega
        | succ n => rfl
      have hn2 : b' / 2 < 2 ^ n := by have := HN.out; rw [Nat.pow_succ] at this; omega
      have HN2 := Lib.hid hn2
      clear hn2
      have l1 := land1 b' hb'
      have l2 := land256 x hx
      have d2 := dbl x hx
      by_cases h1 : b' % 2 = 0
      · have HE2 := Lib.hid (HEQ.out.trans (ml_step0 n x b' p h1))
        rw [h1] at l1
        have H1 := Lib.hid h1
        clear h1 h0
        by_cases h2 : x < 128
        · rw [if_pos h2] at l2
          go_wp2
          go_round
          case rel => exact ⟨n, b' / 2, Gf.xt x, p, by go_num, xt_lo x h2, rfl, HN2.out, by omega, hxx, hp, HE2.out⟩
          case measure => simp [intOf]; omega
        · rw [if_neg h2] at l2
          have x2 := xt_hi x h2 hx
          go_wp2
          go_round
          case rel => exact ⟨n, b' / 2, Gf.xt x, p, by go_num, rfl, rfl, HN2.out, by omega, hxx, hp, HE2.out⟩
          case measure => simp [intOf]; omega
      · have h1' : b' % 2 = 1 := by omega
        have HE2 := Lib.hid (HEQ.out.trans (ml_step1 n x b' p h1'))
        rw [h1'] at l1
        have px : Go.bits .xor .u64 (p : Int) (x : Int) = ((p ^^^ x : Nat) : Int) := Bt.xor64 (by omega) (by omega)
        have hpx := Gf.xor_lt hp hx
        clear h1 h0 h1'
        by_cases h2 : x < 128
        · rw [if_pos h2] at l2
          go_wp2
          go_round
          case rel => exact ⟨n, b' / 2, Gf.xt x, p ^^^ x, by go_num, xt_lo x h2, rfl, HN2.out, by omega, hxx, hpx, HE2.out⟩
          case measure => simp [intOf]; omega
        · rw [if_neg h2] at l2
          have x2 := xt_hi x h2 hx
          go_wp2
          go_round
          case rel => exact ⟨n, b' / 2, Gf.xt x, p ^^^ x, by go_num, rfl, rfl, HN2.out, by omega, hxx, hpx, HE2.out⟩
          case measure => simp [intOf]; omega

/-- The product of two numbers as the call has them. -/
theorem mul_any (a b : Int) (w : World) (ha : 0 ≤ a) (ha' : a < 256) (hb : 0 ≤ b) (hb' : b < 256) :
    Calls Try.prog 52 #[.int .u8 a, .int .u8 b] w fun e w' => e = .returned (.int .u8 ((Gf.gm a.toNat b.toNat : Nat) : Int)) ∧ w = w' := by
  obtain ⟨a, rfl⟩ := Int.eq_ofNat_of_zero_le ha
  obtain ⟨b, rfl⟩ := Int.eq_ofNat_of_zero_le hb
  exact mul_calls a b w (by omega) (by omega)

end Go.Proofs.Ytdbfkjhdnbmpeaa.G8
