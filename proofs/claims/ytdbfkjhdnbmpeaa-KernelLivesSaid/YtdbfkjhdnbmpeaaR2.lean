/- The document's answers of layer 2 (culletref02): each function's contract, by its walk. -/
import Derived.Test.YtdbfkjhdnbmpeaaProg
import Derived.Test.YtdbfkjhdnbmpeaaMm
import Derived.Test.YtdbfkjhdnbmpeaaGf
import Derived.Test.YtdbfkjhdnbmpeaaBt
import Derived.Test.YtdbfkjhdnbmpeaaRf
namespace Go.Proofs.Ytdbfkjhdnbmpeaa.R2
set_option linter.unusedSimpArgs false
set_option linter.unusedVariables false
open Go Go.RowKit Go.Proofs.Ytdbfkjhdnbmpeaa Go.Proofs.Ytdbfkjhdnbmpeaa.Mm Go.Proofs.Ytdbfkjhdnbmpeaa.Gf

theorem low1 (x : Nat) (h : x < 256) : Go.bits .and .u8 (x : Int) 1 = ((x % 2 : Nat) : Int) := by
  rw [show (1 : Int) = ((1 : Nat) : Int) from rfl, Bt.and8 h (by decide), Nat.and_one_is_mod]
theorem lowi (x : Nat) (h : x < 2 ^ 16) : Go.bits .and .i64 (x : Int) 1 = ((x % 2 : Nat) : Int) := by
  rw [show (1 : Int) = ((1 : Nat) : Int) from rfl, Bt.andi64 (by omega) (by decide), Nat.and_one_is_mod]
theorem cpow (a n : Nat) : (a : Int) * 2 ^ n = ((a * 2 ^ n : Nat) : Int) := by simp
theorem cdiv (a n : Nat) : (a : Int) / 2 ^ n = ((a / 2 ^ n : Nat) : Int) := by simp
theorem pow_le8 {n : Nat} (h : n ≤ 8) : 2 ^ n ≤ 256 := by
  have := Nat.pow_le_pow_right (n := 2) (by decide) h
  simpa using this

set_option maxRecDepth 100000 in
set_option maxHeartbeats 2000000 in
theorem mul_calls (a b : Nat) (w : World) (ha : a < 256) (hb : b < 256) :
    Calls Try.prog 46 #[.int .u8 a, .int .u8 b] w fun e w' => e = .returned (.int .u8 ((Gf.gm a b : Nat) : Int)) ∧ w = w' := by
  go_enter Try.func46, Try.ntmps46
  go_wp2
  go_loop [5, 6] (fun vp vi => ∃ i : Nat, i ≤ 8 ∧ vi = .int .i64 i ∧ vp = .int .i64 ((Rf.clm a b i : Nat) : Int)) (fun _ vi => 8 - (intOf vi).toNat)
  case atStart => exact ⟨0, by omega, rfl, rfl⟩
  case round =>
    obtain ⟨i, hi, rfl, rfl⟩ := hrel
    by_cases hlt : i < 8
    · have hq : b / 2 ^ i < 256 := Nat.lt_of_le_of_lt (Nat.div_le_self _ _) hb
      have l1 := low1 _ hq
      rw [← cdiv] at l1
      have c1 : IntKind.u64.wrap (i : Int) = i := Bt.wrap_u64 _ (by omega) (by omega)
      have hc := Rf.clm_lt (b := b) ha i hi
      have hp8 := pow_le8 hi
      have hap : a * 2 ^ i ≤ 255 * 256 := Nat.mul_le_mul (by omega) hp8
      have hc2 : Rf.clm a b i < 2 ^ 16 := Nat.lt_of_lt_of_le hc (Nat.pow_le_pow_right (by decide) (by omega))
      have c2 : IntKind.i64.wrap ((a : Int) * 2 ^ i) = (a : Int) * 2 ^ i := by rw [cpow]; exact Bt.wrap_i64 _ (by omega) (by omega)
      have c3 : Go.bits .xor .i64 ((Rf.clm a b i : Nat) : Int) ((a : Int) * 2 ^ i) = ((Rf.clm a b i ^^^ (a * 2 ^ i) : Nat) : Int) := by rw [cpow]; exact Bt.xori64 (by omega) (by omega)
      clear hc hc2 hap hp8 hq
      by_cases hbit : b / 2 ^ i % 2 = 1
      · rw [hbit] at l1
        have hs : Hid (Rf.clm a b (i + 1) = Rf.clm a b i ^^^ (a * 2 ^ i)) := if_pos hbit
        clear hbit
        go_wp2
        go_round
        case rel => exact ⟨i + 1, by omega, by go_num, by rw [hs.out]⟩
        case measure => simp [intOf]; omega
      · rw [show b / 2 ^ i % 2 = 0 from by omega] at l1
        have hs : Hid (Rf.clm a b (i + 1) = Rf.clm a b i) := if_neg hbit
        clear hbit
        go_wp2
        go_round
        case rel => exact ⟨i + 1, by omega, by go_num, by rw [hs.out]⟩
        case measure => simp [intOf]; omega
    · obtain rfl : i = 8 := by omega
      clear hlt hi
      have H := Lib.hid (Rf.ref_eq ha hb)
      have hc := Rf.clm_lt (b := b) ha 8 (by decide)
      generalize Rf.clm a b 8 = p0 at *
      go_wp2
      go_loop [5, 7] (fun vp vi => ∃ i p : Nat, 7 ≤ i ∧ i ≤ 14 ∧ vi = .int .i64 i ∧ vp = .int .i64 p ∧ p < 2 ^ 16 ∧ Gf.gm a b = Rf.rd (i - 7) p) (fun _ vi => (intOf vi).toNat)
      case atStart => exact ⟨14, p0, by omega, by omega, rfl, rfl, hc, H.out.symm⟩
      case round =>
        clear H hc
        obtain ⟨i, p, h7, h14, rfl, rfl, hp, hr⟩ := hrel
        have HR := Lib.hid hr
        clear hr
        by_cases h8 : 8 ≤ i
        · have hq : p / 2 ^ i < 2 ^ 16 := Nat.lt_of_le_of_lt (Nat.div_le_self _ _) hp
          have l1 := lowi _ hq
          rw [← cdiv] at l1
          have c1 : IntKind.u64.wrap (i : Int) = i := Bt.wrap_u64 _ (by omega) (by omega)
          have c2 : IntKind.u64.wrap ((i : Int) - 8) = (i : Int) - 8 := Bt.wrap_u64 _ (by omega) (by omega)
          have c3 : ((i : Int) - 8).toNat = i - 8 := by omega
          have c3' : 0 ≤ (i : Int) - 8 := by omega
          have c3'' : (i : Int) - 8 ≤ 64 := by omega
          have hp6 : 2 ^ (i - 8) ≤ 2 ^ 6 := Nat.pow_le_pow_right (by decide) (by omega)
          have c4 : IntKind.i64.wrap (285 * 2 ^ (i - 8)) = 285 * 2 ^ (i - 8) := by
            have := cpow 285 (i - 8)
            rw [show ((285 : Nat) : Int) = 285 from rfl] at this
            rw [this]; exact Bt.wrap_i64 _ (by omega) (by omega)
          have c5 : Go.bits .xor .i64 (p : Int) (285 * 2 ^ (i - 8)) = ((p ^^^ (285 * 2 ^ (i - 8)) : Nat) : Int) := by
            have := cpow 285 (i - 8)
            rw [show ((285 : Nat) : Int) = 285 from rfl] at this
            rw [this]; exact Bt.xori64 (by omega) (by omega)
          have hs := Rf.rs_lt h8 h14 hp
          have HS : Hid (Gf.gm a b = Rf.rd (i - 1 - 7) (Rf.rs i p)) := by
            have := HR.out
            rw [show i - 7 = (i - 1 - 7) + 1 from by omega] at this
            rw [this]
            show Rf.rd _ (Rf.rs (i - 1 - 7 + 8) p) = _
            rw [show i - 1 - 7 + 8 = i from by omega]
          clear hq hp6
          by_cases hbit : p / 2 ^ i % 2 = 1
          · rw [hbit] at l1
            have he : Rf.rs i p = p ^^^ (285 * 2 ^ (i - 8)) := if_pos hbit
            rw [he] at hs HS
            clear hbit he
            go_wp2
            go_round
            case rel => exact ⟨i - 1, _, by omega, by omega, by go_num, rfl, hs, HS.out⟩
            case measure => simp [intOf]; omega
          · rw [show p / 2 ^ i % 2 = 0 from by omega] at l1
            have he : Rf.rs i p = p := if_neg hbit
            rw [he] at hs HS
            clear hbit he
            go_wp2
            go_round
            case rel => exact ⟨i - 1, _, by omega, by omega, by go_num, rfl, hs, HS.out⟩
            case measure => simp [intOf]; omega
        · obtain rfl : i = 7 := by omega
          go_wp2
          go_ret
          refine ⟨?_, rfl⟩
          have hg := Gf.gm_lt b ha
          have := HR.out
          rw [show (7 - 7 : Nat) = 0 from rfl] at this
          rw [this]
          have hpb : p < 256 := by rw [this] at hg; exact hg
          have e : (p : Int) % 256 = p := by omega
          refine congrArg (fun x => Ending.returned (Value.int .u8 x)) (a₁ := (p : Int) % 256) ?_
          exact e


theorem mul_any (a b : Int) (w : World) (ha : 0 ≤ a) (ha' : a < 256) (hb : 0 ≤ b) (hb' : b < 256) :
    Calls Try.prog 46 #[.int .u8 a, .int .u8 b] w fun e w' => e = .returned (.int .u8 ((Gf.gm a.toNat b.toNat : Nat) : Int)) ∧ w = w' := by
  obtain ⟨a, rfl⟩ := Int.eq_ofNat_of_zero_le ha
  obtain ⟨b, rfl⟩ := Int.eq_ofNat_of_zero_le hb
  exact mul_calls a b w (by omega) (by omega)

theorem tmod_neg (n : Int) (h : n < 0) : Int.tmod n 255 = -((-n) % 255) := by
  rw [show n = -(-n) from by omega, Int.neg_tmod, Int.tmod_eq_emod_of_nonneg (by omega)]
  simp
theorem tmod_cases (n : Int) : (0 ≤ Int.tmod n 255 ∧ Int.tmod n 255 < 255 ∧ n % 255 = Int.tmod n 255) ∨ (Int.tmod n 255 < 0 ∧ -255 < Int.tmod n 255 ∧ n % 255 = Int.tmod n 255 + 255) := by
  by_cases h : n < 0
  · rw [tmod_neg n h]; omega
  · rw [Int.tmod_eq_emod_of_nonneg (by omega)]; omega

end Go.Proofs.Ytdbfkjhdnbmpeaa.R2
