/- The document's product of layer 2: the product of polynomials, then its remainder: the same as the product by shifts. Plain Lean. -/
import Derived.Test.YtdbfkjhdnbmpeaaGf
namespace Go.Proofs.Ytdbfkjhdnbmpeaa.Rf
set_option linter.unusedSimpArgs false
set_option linter.unusedVariables false
open Go.Proofs.Ytdbfkjhdnbmpeaa

/-- The product of polynomials, n bits of b. -/
def clm (a b : Nat) : Nat → Nat
  | 0 => 0
  | n + 1 => if b / 2 ^ n % 2 = 1 then clm a b n ^^^ (a * 2 ^ n) else clm a b n
/-- One step of the remainder. -/
def rs (i p : Nat) : Nat := if p / 2 ^ i % 2 = 1 then p ^^^ (285 * 2 ^ (i - 8)) else p
/-- The remainder: the steps from 8 + m - 1 down to 8. -/
def rd : Nat → Nat → Nat
  | 0, p => p
  | m + 1, p => rd m (rs (m + 8) p)

theorem clm_lt {a b : Nat} (ha : a < 256) : ∀ n, n ≤ 8 → clm a b n < 2 ^ (8 + n)
  | 0, _ => by show 0 < _; decide
  | n + 1, hn => by
    have ih := clm_lt (b := b) ha n (by omega)
    have h1 : clm a b n < 2 ^ (8 + (n + 1)) := Nat.lt_of_lt_of_le ih (Nat.pow_le_pow_right (by decide) (by omega))
    unfold clm
    split
    · refine Nat.xor_lt_two_pow h1 ?_
      have h2 : a * 2 ^ n < 256 * 2 ^ n := Nat.mul_lt_mul_of_pos_right ha (Nat.two_pow_pos n)
      have h3 : 256 * 2 ^ n ≤ 2 ^ (8 + (n + 1)) := by rw [show 256 = 2 ^ 8 from rfl, ← Nat.pow_add]; exact Nat.pow_le_pow_right (by decide) (by omega)
      omega
    · exact h1

theorem bit_xor (x y n : Nat) : (x ^^^ y) / 2 ^ n % 2 = (x / 2 ^ n % 2 + y / 2 ^ n % 2) % 2 := by
  have h : (x ^^^ y) / 2 ^ n = x / 2 ^ n ^^^ y / 2 ^ n := by
    have h := Nat.shiftRight_xor_distrib (a := x) (b := y) (i := n)
    simpa [Nat.shiftRight_eq_div_pow] using h
  rw [h, Gf.xor_mod_two]
theorem mul_pow_xor (x y n : Nat) : (x ^^^ y) * 2 ^ n = (x * 2 ^ n) ^^^ (y * 2 ^ n) := by
  have h := Nat.shiftLeft_xor_distrib (a := x) (b := y) (i := n)
  simpa [Nat.shiftLeft_eq] using h

theorem swap4 (a b c d : Nat) : (a ^^^ b) ^^^ (c ^^^ d) = (a ^^^ c) ^^^ (b ^^^ d) := by
  rw [Nat.xor_assoc, ← Nat.xor_assoc b c d, Nat.xor_comm b c, Nat.xor_assoc c b d, ← Nat.xor_assoc a c]

theorem clm_left (x y b : Nat) : ∀ n, clm (x ^^^ y) b n = clm x b n ^^^ clm y b n
  | 0 => by simp [clm]
  | n + 1 => by
    unfold clm
    rw [clm_left x y b n]
    by_cases h : b / 2 ^ n % 2 = 1
    · rw [if_pos h, if_pos h, if_pos h, mul_pow_xor, swap4]
    · rw [if_neg h, if_neg h, if_neg h]
theorem clm_right (a x y : Nat) : ∀ n, clm a (x ^^^ y) n = clm a x n ^^^ clm a y n
  | 0 => by simp [clm]
  | n + 1 => by
    unfold clm
    rw [clm_right a x y n, bit_xor]
    rcases Nat.mod_two_eq_zero_or_one (x / 2 ^ n) with hx | hx <;> rcases Nat.mod_two_eq_zero_or_one (y / 2 ^ n) with hy | hy <;> simp only [hx, hy] <;> simp
    · rw [Nat.xor_assoc]
    · rw [Nat.xor_assoc, Nat.xor_assoc, Nat.xor_comm (a * 2 ^ n)]
    · rw [swap4, Nat.xor_self, Nat.xor_zero]
theorem rs_xor (i x y : Nat) : rs i (x ^^^ y) = rs i x ^^^ rs i y := by
  unfold rs
  rw [bit_xor]
  rcases Nat.mod_two_eq_zero_or_one (x / 2 ^ i) with hx | hx <;> rcases Nat.mod_two_eq_zero_or_one (y / 2 ^ i) with hy | hy <;> simp only [hx, hy] <;> simp
  · rw [Nat.xor_assoc]
  · rw [Nat.xor_assoc, Nat.xor_assoc, Nat.xor_comm y]
  · rw [swap4, Nat.xor_self, Nat.xor_zero]
theorem rd_xor : ∀ m x y, rd m (x ^^^ y) = rd m x ^^^ rd m y
  | 0, _, _ => rfl
  | m + 1, x, y => by unfold rd; rw [rs_xor, rd_xor m]

/-- The document's product is the product. -/
theorem ref_eq {a b : Nat} (ha : a < 256) (hb : b < 256) : rd 7 (clm a b 8) = Gf.gm a b := by
  refine Gf.linear_ext (f := fun b => rd 7 (clm a b 8)) (g := fun b => Gf.gm a b) (fun x y _ _ => by show rd 7 (clm a (x ^^^ y) 8) = _; rw [clm_right, rd_xor]) (fun x y _ _ => Gf.gm_right a x y) (fun i => ?_) b hb
  refine Gf.linear_ext (f := fun a => rd 7 (clm a (2 ^ i.val) 8)) (g := fun a => Gf.gm a (2 ^ i.val)) (fun x y _ _ => by show rd 7 (clm (x ^^^ y) _ 8) = _; rw [clm_left, rd_xor]) (fun x y hx hy => Gf.gm_left _ hx hy) (fun j => ?_) a ha
  revert i j
  decide +kernel

theorem rs_lt {i p : Nat} (hi : 8 ≤ i) (hi2 : i ≤ 14) (hp : p < 2 ^ 16) : rs i p < 2 ^ 16 := by
  unfold rs
  split
  · refine Nat.xor_lt_two_pow hp ?_
    have : 2 ^ (i - 8) ≤ 2 ^ 6 := Nat.pow_le_pow_right (by decide) (by omega)
    omega
  · exact hp

end Go.Proofs.Ytdbfkjhdnbmpeaa.Rf
