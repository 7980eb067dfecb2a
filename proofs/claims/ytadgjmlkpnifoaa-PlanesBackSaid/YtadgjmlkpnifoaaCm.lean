/- Layer 1: products of polynomials over two elements, as Euclid's steps need them. Plain Lean, no program in sight. -/
import Derived.Test.YtadgjmlkpnifoaaRg
import Derived.Test.YtadgjmlkpnifoaaRh
namespace Go.Proofs.Ytadgjmlkpnifoaa.Cm
set_option linter.unusedSimpArgs false
set_option linter.unusedVariables false
open Go.Proofs.Ytadgjmlkpnifoaa Go.Proofs.Ytadgjmlkpnifoaa.Gh

/-- The product of polynomials. -/
def cm (q y : Nat) : Nat := if q = 0 then 0 else 2 * cm (q / 2) y ^^^ (if q % 2 = 1 then y else 0)
termination_by q
decreasing_by omega
theorem cm_zero (y : Nat) : cm 0 y = 0 := by rw [cm, if_pos rfl]
theorem cm_step (q y : Nat) : cm q y = 2 * cm (q / 2) y ^^^ (if q % 2 = 1 then y else 0) := by
  by_cases h : q = 0
  · subst h; simp [cm_zero]
  · rw [cm, if_neg h]
theorem dbl_xor (a b : Nat) : 2 * (a ^^^ b) = 2 * a ^^^ 2 * b := by
  have h := Rh.mul_pow_xor a b 1
  rw [Nat.pow_one, Nat.mul_comm, Nat.mul_comm a, Nat.mul_comm b] at h
  exact h
theorem cm_right (a b : Nat) : ∀ n q, q ≤ n → cm q (a ^^^ b) = cm q a ^^^ cm q b
  | 0, q, h => by
    obtain rfl : q = 0 := by omega
    rw [cm_zero, cm_zero, cm_zero]; rfl
  | n + 1, q, h => by
    by_cases hq : q = 0
    · subst hq; rw [cm_zero, cm_zero, cm_zero]; rfl
    · rw [cm_step q, cm_step q a, cm_step q b, cm_right a b n (q / 2) (by omega), dbl_xor]
      split
      · rw [Rh.swap4]
      · rw [Nat.xor_zero, Nat.xor_zero, Nat.xor_zero]
theorem cm_left (y : Nat) : ∀ n p q, p ≤ n → q ≤ n → cm (p ^^^ q) y = cm p y ^^^ cm q y
  | 0, p, q, hp, hq => by
    obtain rfl : p = 0 := by omega
    obtain rfl : q = 0 := by omega
    rw [cm_zero]; rw [show 0 ^^^ 0 = 0 from rfl, cm_zero]
  | n + 1, p, q, hp, hq => by
    rw [cm_step (p ^^^ q), cm_step p, cm_step q, xor_div_two, cm_left y n (p / 2) (q / 2) (by omega) (by omega), dbl_xor, xor_mod_two, Rh.swap4]
    congr 1
    rcases Nat.mod_two_eq_zero_or_one p with h1 | h1 <;> rcases Nat.mod_two_eq_zero_or_one q with h2 | h2 <;> simp [h1, h2]
theorem cm_l (y p q : Nat) : cm (p ^^^ q) y = cm p y ^^^ cm q y := cm_left y (max p q) p q (Nat.le_max_left _ _) (Nat.le_max_right _ _)
theorem cm_r (q a b : Nat) : cm q (a ^^^ b) = cm q a ^^^ cm q b := cm_right a b q q (Nat.le_refl _)
theorem cm_dbl (q y : Nat) : cm (2 * q) y = 2 * cm q y := by
  rw [cm_step, show 2 * q / 2 = q by omega, if_neg (by omega), Nat.xor_zero]
theorem cm_one (y : Nat) : cm 1 y = y := by rw [cm_step, show 1 / 2 = 0 from rfl, cm_zero, if_pos rfl, Nat.mul_zero, Nat.zero_xor]
theorem cm_nil (q : Nat) : cm q 0 = 0 := by
  have := cm_r q 0 0
  rw [Nat.xor_self] at this
  rw [this, Nat.xor_self]
theorem cm_assoc (q y : Nat) : ∀ n u, u ≤ n → cm u (cm q y) = cm (cm u q) y
  | 0, u, h => by
    obtain rfl : u = 0 := by omega
    rw [cm_zero, cm_zero, cm_zero]
  | n + 1, u, h => by
    by_cases hu : u = 0
    · subst hu; rw [cm_zero, cm_zero, cm_zero]
    · rw [cm_step u, cm_step u q, cm_l, cm_dbl, cm_assoc q y n (u / 2) (by omega)]
      congr 1
      split
      · rfl
      · rw [cm_zero]
theorem cm_a (u q y : Nat) : cm u (cm q y) = cm (cm u q) y := cm_assoc q y u u (Nat.le_refl _)
theorem cm_pow (y : Nat) : ∀ s, cm (2 ^ s) y = y * 2 ^ s
  | 0 => by rw [Nat.pow_zero, cm_one, Nat.mul_one]
  | s + 1 => by rw [Nat.pow_succ, Nat.mul_comm (2 ^ s), cm_dbl, cm_pow y s, ← Nat.mul_assoc, Nat.mul_comm 2 y, Nat.mul_assoc, Nat.mul_comm 2]
/-- Degrees add. -/
theorem cm_deg {x j : Nat} (h1 : 2 ^ j ≤ x) (h2 : x < 2 ^ (j + 1)) : ∀ i u, 2 ^ i ≤ u → u < 2 ^ (i + 1) → 2 ^ (i + j) ≤ cm u x ∧ cm u x < 2 ^ (i + j + 1)
  | 0, u, hu, hu2 => by
    obtain rfl : u = 1 := by simp at hu hu2; omega
    rw [cm_one, Nat.zero_add]; exact ⟨h1, h2⟩
  | i + 1, u, hu, hu2 => by
    have e1 : 2 ^ (i + 1) = 2 * 2 ^ i := by rw [Nat.pow_succ]; omega
    have e2 : 2 ^ (i + 1 + 1) = 2 * 2 ^ (i + 1) := by rw [Nat.pow_succ]; omega
    have ih := cm_deg h1 h2 i (u / 2) (by omega) (by omega)
    rw [cm_step]
    have e3 : 2 ^ (i + 1 + j) = 2 * 2 ^ (i + j) := by rw [show i + 1 + j = (i + j) + 1 by omega, Nat.pow_succ]; omega
    have e4 : 2 ^ (i + 1 + j + 1) = 2 * 2 ^ (i + j + 1) := by rw [show i + 1 + j + 1 = (i + j + 1) + 1 by omega, Nat.pow_succ]; omega
    have ho : (if u % 2 = 1 then x else 0) < 2 ^ (i + 1 + j) := by
      have : 2 ^ (j + 1) ≤ 2 ^ (i + 1 + j) := Nat.pow_le_pow_right (by decide) (by omega)
      split
      · omega
      · exact Nat.two_pow_pos _
    generalize (if u % 2 = 1 then x else 0) = o at *
    generalize cm (u / 2) x = c at *
    refine ⟨?_, ?_⟩
    · refine Nat.le_of_not_lt fun hlt => ?_
      have := Nat.xor_lt_two_pow hlt ho
      rw [Nat.xor_assoc, Nat.xor_self, Nat.xor_zero] at this
      omega
    · have : 2 ^ (i + 1 + j) ≤ 2 ^ (i + 1 + j + 1) := Nat.pow_le_pow_right (by decide) (by omega)
      exact Nat.xor_lt_two_pow (by omega) (by omega)

/-- The remainder by the modulus, of what is below 2^17. -/
def red (z : Nat) : Nat := if z < 65536 then z else z ^^^ 65581
theorem red_low {z : Nat} (h : z < 65536) : red z = z := if_pos h
theorem xt_red {c o : Nat} (hc : c < 65536) (ho : o < 65536) : red (2 * c ^^^ o) = xt c ^^^ o := by
  unfold xt red
  by_cases h : c < 32768
  · have : 2 * c ^^^ o < 65536 := Nat.xor_lt_two_pow (n := 16) (by omega) (by omega)
    rw [if_pos this, if_pos h]
  · have : ¬ 2 * c ^^^ o < 65536 := fun hlt => by
      have := Nat.xor_lt_two_pow (n := 16) (x := 2 * c ^^^ o) (y := o) hlt ho
      rw [Nat.xor_assoc, Nat.xor_self, Nat.xor_zero] at this
      omega
    rw [if_neg this, if_neg h, Nat.xor_assoc, Nat.xor_comm o, Nat.xor_assoc]
theorem red_xor {z r : Nat} (hz : z < 131072) (hr : r < 65536) : red (z ^^^ r) = red z ^^^ r := by
  unfold red
  by_cases h : z < 65536
  · have : z ^^^ r < 65536 := Nat.xor_lt_two_pow (n := 16) h hr
    rw [if_pos this, if_pos h]
  · have : ¬ z ^^^ r < 65536 := fun hlt => by
      have := Nat.xor_lt_two_pow (n := 16) (x := z ^^^ r) (y := r) hlt hr
      rw [Nat.xor_assoc, Nat.xor_self, Nat.xor_zero] at this
      omega
    rw [if_neg this, if_neg h, Nat.xor_assoc, Nat.xor_comm r, ← Nat.xor_assoc]
theorem gm_step {q y : Nat} (hq : q < 65536) (hy : y < 65536) : gm q y = xt (gm (q / 2) y) ^^^ (if q % 2 = 1 then y else 0) := by
  have h := Rg.gm_top (a := y) (b := q) (i := 0) hy hq
  rw [Nat.pow_zero, Nat.div_one, Nat.zero_add, Nat.pow_one] at h
  rw [gm_comm hq hy, h, gm_comm hy (by omega)]
theorem red_cm {y : Nat} (hy : y < 65536) : ∀ n q, q ≤ n → q < 65536 → cm q y < 131072 → red (cm q y) = gm q y
  | 0, q, h, _, _ => by
    obtain rfl : q = 0 := by omega
    rw [cm_zero, gm_zero_left]; rfl
  | n + 1, q, h, hq, hc => by
    by_cases h0 : q = 0
    · subst h0; rw [cm_zero, gm_zero_left]; rfl
    · rw [cm_step] at hc ⊢
      rw [gm_step hq hy]
      have ho : (if q % 2 = 1 then y else 0) < 65536 := by split <;> omega
      generalize (if q % 2 = 1 then y else 0) = o at *
      have h2 : 2 * cm (q / 2) y < 131072 := by
        have := Nat.xor_lt_two_pow (n := 17) (x := 2 * cm (q / 2) y ^^^ o) (y := o) hc (by show o < 131072; omega)
        rw [Nat.xor_assoc, Nat.xor_self, Nat.xor_zero] at this
        exact this
      have ih := red_cm hy n (q / 2) (by omega) (by omega) (by omega)
      rw [red_low (by omega)] at ih
      rw [xt_red (by omega) ho, ih]
/-- The modulus has no divisor but 1 below 65536. -/
theorem gcd_one {u x : Nat} (h : 65581 = cm u x) (hx : x < 65536) : x = 1 := by
  have hx0 : x ≠ 0 := fun e => by subst e; rw [cm_nil] at h; cases h
  have hu0 : u ≠ 0 := fun e => by subst e; rw [cm_zero] at h; cases h
  by_cases hu : u < 65536
  · have h1 := red_cm hx u u (Nat.le_refl _) hu (by omega)
    rw [← h] at h1
    have h2 : gm u x = 0 := by rw [← h1]; decide
    exact absurd (gm_ne_zero hu hx hu0 h2) hx0
  · have e1 := Nat.log2_self_le hu0
    have e2 := Nat.lt_log2_self (n := u)
    have f1 := Nat.log2_self_le hx0
    have f2 := Nat.lt_log2_self (n := x)
    have hd := (cm_deg f1 f2 u.log2 u e1 e2).1
    have g1 : 16 ≤ u.log2 := by
      refine Nat.le_of_not_lt fun hlt => ?_
      have : 2 ^ (u.log2 + 1) ≤ 2 ^ 16 := Nat.pow_le_pow_right (by decide) (by omega)
      omega
    by_cases hx1 : x = 1
    · exact hx1
    · have g2 : 1 ≤ x.log2 := by
        refine Nat.le_of_not_lt fun hlt => ?_
        have : 2 ^ (x.log2 + 1) ≤ 2 ^ 1 := Nat.pow_le_pow_right (by decide) (by omega)
        omega
      have : 2 ^ 17 ≤ 2 ^ (u.log2 + x.log2) := Nat.pow_le_pow_right (by decide) (by omega)
      omega
/-- One step of Euclid's. -/
theorem euclid {u v x y q r : Nat} (h : 65581 = cm u x ^^^ cm v y) (hx : x = cm q y ^^^ r) : 65581 = cm (cm u q ^^^ v) y ^^^ cm u r := by
  rw [h, hx, cm_r, cm_l, cm_a, Nat.xor_assoc, Nat.xor_comm (cm u r), ← Nat.xor_assoc]
/-- .. and what the factor is. -/
theorem bezout {a s t x y q r : Nat} (ha : a < 65536) (hs : s < 65536) (ht : t < 65536) (hx : red x = gm s a) (hy : y = gm t a) (hq : q < 65536) (hy2 : y < 65536) (hxl : x < 131072) (hr : r < 65536) (he : x = cm q y ^^^ r) : r = gm (s ^^^ gm q t) a := by
  have hc : cm q y < 131072 := by
    have := Nat.xor_lt_two_pow (n := 17) (x := x) (y := r) hxl (by show r < 131072; omega)
    rw [he, Nat.xor_assoc, Nat.xor_self, Nat.xor_zero] at this
    exact this
  have h1 : red x = gm q y ^^^ r := by rw [he, red_xor hc hr, red_cm hy2 q q (Nat.le_refl _) hq hc]
  rw [gm_left _ hs (gm_lt _ hq), gm_assoc hq ht ha, ← hy, ← hx, h1, Nat.xor_assoc, Nat.xor_comm r, ← Nat.xor_assoc, Nat.xor_self, Nat.zero_xor]

end Go.Proofs.Ytadgjmlkpnifoaa.Cm
