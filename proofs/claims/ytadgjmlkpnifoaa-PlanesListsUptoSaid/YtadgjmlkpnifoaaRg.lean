/- Layer 1 (ring), as far as layer 3 leans on it: degrees, remainders, products modulo x^16 + x^5 + x^3 + x^2 + 1. -/
import Derived.Test.YtadgjmlkpnifoaaGh
import Derived.Test.YtadgjmlkpnifoaaBt
import Derived.Test.YtadgjmlkpnifoaaLn
import Derived.IntWalk
import Derived.Lib.ItoaNum
namespace Go.Proofs.Ytadgjmlkpnifoaa.Rg
set_option linter.unusedSimpArgs false
set_option linter.unusedVariables false
open Go Go.RowKit Go.Proofs.Ytadgjmlkpnifoaa Go.Proofs.Ytadgjmlkpnifoaa.Mm Go.Proofs.Ytadgjmlkpnifoaa.Gh

theorem bl_le {x k : Nat} (h : x < 2 ^ k) (hk : k ≤ 64) : Lib.bitLen x ≤ k := by
  by_cases h0 : x = 0
  · subst h0; show Lib.bitLenAux 64 0 ≤ k; rw [Lib.bitLenAux_zero]; omega
  · have hx : x < 2 ^ 64 := Nat.lt_of_lt_of_le h (Nat.pow_le_pow_right (by decide) hk)
    obtain ⟨h1, h2, _⟩ := Lib.bitLenAux_bounds 64 x hx h0
    show Lib.bitLenAux 64 x ≤ k
    by_cases hh : Lib.bitLenAux 64 x ≤ k
    · exact hh
    · have := Nat.pow_le_pow_right (n := 2) (by decide) (show k ≤ Lib.bitLenAux 64 x - 1 by omega)
      omega

theorem degree_calls (x : Int) (w : World) (h0 : 0 ≤ x) (h1 : x ≤ 18446744073709551615) :
    Calls Try.prog 47 #[.int .u64 x] w fun e w' => e = .returned (.int .i64 ((Lib.bitLen x.toNat : Nat) - 1 : Int)) ∧ w = w' := by
  have hb : Lib.bitLen x.toNat ≤ 64 := bl_le (k := 64) (by show _ < 18446744073709551616; omega) (Nat.le_refl _)
  go_enter Try.func47, Try.ntmps47
  go_wp2_with fail
  refine (Ln.len_calls x w h0 h1).mono ?_
  rintro e _ ⟨rfl, rfl⟩
  obtain ⟨b, HB⟩ : ∃ b, Hid (Lib.bitLen x.toNat = b) := ⟨_, Lib.hid rfl⟩
  rw [HB.out] at hb ⊢
  have e1 : wrap64 ((b : Int) - 1) = (b : Int) - 1 := by unfold wrap64; omega
  go_wp2_with fail
  go_ret
  refine ⟨?_, rfl⟩
  rw [HB.out]; rfl

theorem bl_p : Lib.bitLen (65581 : Int).toNat = 17 := by decide +kernel
/-- The modulus' degree. -/
theorem degree_p (w : World) : Calls Try.prog 47 #[.int .u64 65581] w fun e w' => e = .returned (.int .i64 16) ∧ w = w' := by
  have := degree_calls 65581 w (by decide) (by decide)
  rw [bl_p] at this
  exact this
/-- A remainder's degree. -/
theorem degree_low (x : Int) (w : World) (h0 : 0 ≤ x) (h1 : x < 65536) : Calls Try.prog 47 #[.int .u64 x] w fun e w' => (∃ d : Int, -1 ≤ d ∧ d ≤ 15 ∧ e = .returned (.int .i64 d)) ∧ w = w' := by
  have hb : Lib.bitLen x.toNat ≤ 16 := bl_le (by show _ < 65536; omega) (by decide)
  exact (degree_calls x w h0 (by omega)).mono fun e w' ⟨he, hw⟩ => ⟨⟨_, by omega, by omega, he⟩, hw⟩

theorem isMod_p (w : World) : Calls Try.prog 41 #[.int .u64 65581, .int .i64 32] w fun e w' => e = .returned (.bool true) ∧ w = w' := by
  go_enter Try.func41, Try.ntmps41
  go_wp2_with fail
  refine (degree_p _).mono ?_
  rintro e _ ⟨rfl, rfl⟩
  go_wp2_with fail
  go_ret
  exact ⟨rfl, rfl⟩

set_option maxRecDepth 100000 in
/-- What is below the modulus is its own remainder. -/
theorem div_low (x : Int) (w : World) (h0 : 0 ≤ x) (h1 : x < 65536) : Calls Try.prog 43 #[.int .u64 x, .int .u64 65581] w fun e w' => e = .returned (.tuple #[.int .u64 0, .int .u64 x]) ∧ w = w' := by
  go_enter Try.func43, Try.ntmps43
  go_wp2_with fail
  refine (degree_p _).mono ?_
  rintro e _ ⟨rfl, rfl⟩
  go_wp2_with fail
  go_loopw [0, 4] (fun v0 v4 wr => v0 = .int .u64 x ∧ v4 = .int .u64 0 ∧ wr = w) (fun _ _ _ => 0)
  case atStart => exact ⟨rfl, rfl, rfl⟩
  case round =>
    obtain ⟨rfl, rfl, rfl⟩ := hrel
    go_wp2_with fail
    refine (degree_low x _ h0 h1).mono ?_
    rintro e _ ⟨⟨d, hd1, hd2, rfl⟩, rfl⟩
    go_wp2_with fail
    go_ret2
    exact ⟨rfl, rfl⟩

theorem gm_dbl {a y : Nat} (ha : a < 65536) (hy : y < 32768) : gm a (2 * y) = xt (gm a y) := by
  have e : 2 * y = gm 2 y := by rw [gm_two (by omega)]; unfold xt; rw [if_pos hy]
  rw [e, ← gm_assoc ha (by decide) (by omega), gm_comm ha (by decide), gm_assoc (by decide) ha (by omega), gm_two (gm_lt _ ha)]
/-- One round of the product, from the top. -/
theorem gm_top {a b i : Nat} (ha : a < 65536) (hb : b < 65536) : gm a (b / 2 ^ i) = xt (gm a (b / 2 ^ (i + 1))) ^^^ (if b / 2 ^ i % 2 = 1 then a else 0) := by
  have hy : b / 2 ^ (i + 1) < 32768 := by
    rw [Nat.pow_succ, Nat.mul_comm, ← Nat.div_div_eq_div_mul]
    have := Nat.div_le_self (b / 2) (2 ^ i)
    omega
  rw [← gm_dbl ha hy]
  have e : b / 2 ^ i = 2 * (b / 2 ^ (i + 1)) + b / 2 ^ i % 2 := by
    rw [Nat.pow_succ, ← Nat.div_div_eq_div_mul]; omega
  rcases Nat.mod_two_eq_zero_or_one (b / 2 ^ i) with h | h
  · rw [h, if_neg (by decide), Nat.xor_zero]
    rw [h, Nat.add_zero] at e
    rw [← e]
  · rw [h, if_pos rfl]
    have hx : 2 * (b / 2 ^ (i + 1)) ^^^ 1 = 2 * (b / 2 ^ (i + 1)) + 1 := by
      have h1 := Nat.two_pow_add_eq_or_of_lt (b := 1) (i := 1) (by decide) (b / 2 ^ (i + 1))
      rw [Nat.pow_one] at h1
      rw [h1]
      apply Nat.eq_of_testBit_eq
      intro j
      rw [Nat.testBit_xor, Nat.testBit_or]
      cases j with
      | zero => simp
      | succ j => simp [Nat.testBit_succ]
    rw [h] at e
    rw [e, ← hx, gm_right, gm_one ha]

set_option maxRecDepth 100000 in
set_option maxHeartbeats 1000000 in
theorem mulMod_calls (a b : Nat) (w : World) (ha : a < 65536) (hb : b < 65536) : Calls Try.prog 42 #[.int .u64 (a : Int), .int .u64 (b : Int), .int .u64 65581] w fun e w' => e = .returned (.int .u64 ((gm a b : Nat) : Int)) ∧ w = w' := by
  have HZ : Hid (gm a (b / 2 ^ 16) = 0) := Lib.hid (by rw [Nat.div_eq_of_lt hb, gm_zero_right])
  go_enter Try.func42, Try.ntmps42
  go_wp2_with fail
  refine (div_low _ _ (by omega) (by omega)).mono ?_
  rintro e _ ⟨rfl, rfl⟩
  go_wp2_with fail
  refine (div_low _ _ (by omega) (by omega)).mono ?_
  rintro e _ ⟨rfl, rfl⟩
  go_wp2_with fail
  refine (degree_p _).mono ?_
  rintro e _ ⟨rfl, rfl⟩
  go_wp2_with fail
  go_loopw [8, 9] (fun vr vi wr => ∃ i : Nat, i ≤ 16 ∧ vi = .int .i64 ((i : Int) - 1) ∧ vr = .int .u64 ((gm a (b / 2 ^ i) : Nat) : Int) ∧ wr = w) (fun _ vi _ => (intOf vi + 1).toNat)
  case atStart => exact ⟨16, by omega, rfl, by rw [HZ.out]; rfl, rfl⟩
  case round =>
    clear HZ
    obtain ⟨i, hi, rfl, rfl, rfl⟩ := hrel
    cases i with
    | zero =>
      go_wp2_with fail
      go_ret
      exact ⟨by simp, rfl⟩
    | succ i =>
      have HT' := gm_top (i := i) ha hb
      obtain ⟨T, HTT⟩ : ∃ T, Hid (T = gm_top (i := i) ha hb) := ⟨_, Lib.hid rfl⟩
      have HT := Lib.hid HT'; clear HT' HTT T
      have hr := gm_lt (b / 2 ^ (i + 1)) ha
      generalize gm a (b / 2 ^ (i + 1)) = r at *
      have i0 : (0 : Int) ≤ (i : Int) := by omega
      have hbi : b / 2 ^ i < 65536 := Nat.lt_of_le_of_lt (Nat.div_le_self _ _) hb
      have b1 : Go.bits .and .u64 ((b / 2 ^ i : Nat) : Int) 1 = ((b / 2 ^ i % 2 : Nat) : Int) := by
        have := Bt.and64 (a := b / 2 ^ i) (b := 1) (by omega) (by decide)
        rw [Nat.and_one_is_mod] at this; exact this
      have b2 : ((b : Nat) : Int) / 2 ^ i = ((b / 2 ^ i : Nat) : Int) := by simp
      have hm : b / 2 ^ i % 2 = 0 ∨ b / 2 ^ i % 2 = 1 := by omega
      obtain ⟨q, HQ⟩ : ∃ q, Hid (b / 2 ^ i = q) := ⟨_, Lib.hid rfl⟩
      rw [HQ.out] at hbi b1 b2 hm HT
      have c2 : Go.bits .and .u64 0 1 = 0 := by decide
      have c3 : Go.bits .and .u64 1 1 = 1 := by decide
      by_cases hr2 : r < 32768
      · have HX : Hid (xt r = r * 2) := Lib.hid (by unfold xt; rw [if_pos hr2]; omega)
        have c1 : ((r : Int) * 2) / 65536 = 0 := by omega
        rcases hm with hm | hm
        · have b3 : Go.bits .and .u64 (q : Int) 1 = 0 := by rw [b1, hm]; rfl
          have HM := Lib.hid hm
          rw [HX.out, HM.out, if_neg (by decide), Nat.xor_zero] at HT
          clear b1 hm
          go_wp2_with fail
          refine ⟨⟨i, by omega, rfl, by rw [HQ.out, HT.out]; simp, trivial⟩, ?_⟩
          simp [intOf]
          try omega
        · have b3 : Go.bits .and .u64 (q : Int) 1 = 1 := by rw [b1, hm]; rfl
          have HM := Lib.hid hm
          rw [HX.out, HM.out, if_pos rfl] at HT
          clear b1 hm
          go_wp2_with fail
          refine ⟨⟨i, by omega, rfl, by rw [HQ.out, HT.out, ← Bt.xor64 (a := r * 2) (b := a) (by omega) (by omega)]; simp, trivial⟩, ?_⟩
          simp [intOf]
          try omega
      · have HX : Hid (xt r = (r * 2) ^^^ 65581) := Lib.hid (by unfold xt; rw [if_neg hr2, Nat.mul_comm])
        have c1 : ((r : Int) * 2) / 65536 = 1 := by omega
        have hxl := xt_lt hr
        have c4 : Go.bits .xor .u64 ((r : Int) * 2) 65581 = ((xt r : Nat) : Int) := by
          have := Bt.xor64 (a := r * 2) (b := 65581) (by omega) (by decide)
          rw [← HX.out] at this
          simpa using this
        generalize xt r = x at *
        rcases hm with hm | hm
        · have b3 : Go.bits .and .u64 (q : Int) 1 = 0 := by rw [b1, hm]; rfl
          have HM := Lib.hid hm
          rw [HM.out, if_neg (by decide), Nat.xor_zero] at HT
          clear b1 hm
          go_wp2_with fail
          refine ⟨⟨i, by omega, rfl, by rw [HQ.out, HT.out], trivial⟩, ?_⟩
          simp [intOf]
          try omega
        · have b3 : Go.bits .and .u64 (q : Int) 1 = 1 := by rw [b1, hm]; rfl
          have HM := Lib.hid hm
          rw [HM.out, if_pos rfl] at HT
          clear b1 hm
          go_wp2_with fail
          refine ⟨⟨i, by omega, rfl, by rw [HQ.out, HT.out, ← Bt.xor64 (a := x) (b := a) (by omega) (by omega)], trivial⟩, ?_⟩
          simp [intOf]
          try omega

theorem MulMod_calls (a b : Nat) (w : World) (ha : a < 65536) (hb : b < 65536) : Calls Try.prog 37 #[.int .u64 (a : Int), .int .u64 (b : Int), .int .u64 65581] w fun e w' => e = .returned (.tuple #[.int .u64 ((gm a b : Nat) : Int), .int .i64 0]) ∧ w = w' := by
  go_enter Try.func37, Try.ntmps37
  go_wp2_with fail
  refine (isMod_p _).mono ?_
  rintro e _ ⟨rfl, rfl⟩
  go_wp2_with fail
  refine (mulMod_calls a b _ ha hb).mono ?_
  rintro e _ ⟨rfl, rfl⟩
  go_wp2_with fail
  go_ret2
  exact ⟨rfl, rfl⟩

theorem gmul_calls (a b : Nat) (w : World) (ha : a < 65536) (hb : b < 65536) : Calls Try.prog 20 #[.int .u16 (a : Int), .int .u16 (b : Int)] w fun e w' => e = .returned (.int .u16 ((gm a b : Nat) : Int)) ∧ w = w' := by
  have hg := gm_lt b ha
  go_enter Try.func20, Try.ntmps20
  go_wp2_with fail
  refine (MulMod_calls a b _ ha hb).mono ?_
  rintro e _ ⟨rfl, rfl⟩
  obtain ⟨g, HG⟩ : ∃ g, Hid (gm a b = g) := ⟨_, Lib.hid rfl⟩
  rw [HG.out] at hg ⊢
  go_wp2_with fail
  go_ret
  refine ⟨?_, rfl⟩
  rw [HG.out]; rfl
/-- .. at whatever numbers. -/
theorem gmul_any (a b : Int) (w : World) (ha0 : 0 ≤ a) (ha : a < 65536) (hb0 : 0 ≤ b) (hb : b < 65536) : Calls Try.prog 20 #[.int .u16 a, .int .u16 b] w fun e w' => e = .returned (.int .u16 ((gm a.toNat b.toNat : Nat) : Int)) ∧ w = w' := by
  obtain ⟨a, rfl⟩ := Int.eq_ofNat_of_zero_le ha0
  obtain ⟨b, rfl⟩ := Int.eq_ofNat_of_zero_le hb0
  exact gmul_calls a b w (by omega) (by omega)

end Go.Proofs.Ytadgjmlkpnifoaa.Rg
