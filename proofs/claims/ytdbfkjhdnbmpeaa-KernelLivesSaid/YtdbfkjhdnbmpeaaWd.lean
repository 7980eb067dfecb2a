/- Words of eight bytes: what and, xor, shifts and products by a byte make of them, byte by byte. Plain Lean. -/
import Derived.Test.YtdbfkjhdnbmpeaaWr
import Derived.Test.YtdbfkjhdnbmpeaaGf
namespace Go.Proofs.Ytdbfkjhdnbmpeaa.Wd
set_option linter.unusedSimpArgs false
set_option linter.unusedVariables false
open Go Go.Proofs.Ytdbfkjhdnbmpeaa Go.Proofs.Ytdbfkjhdnbmpeaa.Gf Go.Proofs.Ytdbfkjhdnbmpeaa.Wr

/-- Bytes as one number, the first one lowest. -/
def W8 : List Nat → Nat
  | [] => 0
  | x :: l => x + 256 * W8 l
theorem testBit_W8 : ∀ (l : List Nat), B8 l → ∀ i, (W8 l).testBit i = (l.getD (i / 8) 0).testBit (i % 8)
  | [], _, i => by simp [W8]
  | x :: l, h, i => by
    have hx : x < 2 ^ 8 := h x (by simp)
    have ih := testBit_W8 l (fun y hy => h y (by simp [hy]))
    have e : W8 (x :: l) = 2 ^ 8 * W8 l + x := by simp [W8]; omega
    rw [e, Nat.testBit_two_pow_mul_add _ hx]
    by_cases hi : i < 8
    · rw [if_pos hi, Nat.div_eq_of_lt hi, Nat.mod_eq_of_lt hi]; simp
    · rw [if_neg hi, ih (i - 8)]
      have e1 : i / 8 = (i - 8) / 8 + 1 := by omega
      have e2 : (i - 8) % 8 = i % 8 := by omega
      rw [e1, e2]; simp
theorem W8_lt : ∀ (l : List Nat), B8 l → W8 l < 256 ^ l.length
  | [], _ => by simp [W8]
  | x :: l, h => by
    have hx : x < 256 := h x (by simp)
    have ih := W8_lt l (fun y hy => h y (by simp [hy]))
    simp only [W8, List.length_cons, Nat.pow_succ]
    omega
theorem W8_lt64 {l : List Nat} (h : B8 l) (hl : l.length = 8) : W8 l < 18446744073709551616 := by
  have := W8_lt l h
  rw [hl] at this
  exact this
theorem ext8 {l k : List Nat} (h : l.length = k.length) (hh : ∀ i, i < l.length → l.getD i 0 = k.getD i 0) : l = k := by
  apply List.ext_getElem?
  intro i
  by_cases hi : i < l.length
  · have := hh i hi
    simp only [List.getD_eq_getElem?_getD, List.getElem?_eq_getElem hi, List.getElem?_eq_getElem (show i < k.length by omega), Option.getD_some] at this ⊢
    rw [this]
  · rw [List.getElem?_eq_none (by omega), List.getElem?_eq_none (by omega)]
theorem W8_and {a b : List Nat} (ha : B8 a) (hb : B8 b) (h : a.length = b.length) : W8 a &&& W8 b = W8 (List.zipWith (· &&& ·) a b) := by
  have h8 : B8 (List.zipWith (· &&& ·) a b) := by
    intro x hx
    obtain ⟨i, hi, rfl⟩ := List.getElem_of_mem hx
    rw [List.getElem_zipWith]
    rw [List.length_zipWith] at hi
    exact Nat.lt_of_le_of_lt Nat.and_le_left (ha _ (List.getElem_mem _))
  apply Nat.eq_of_testBit_eq
  intro i
  rw [Nat.testBit_and, testBit_W8 a ha, testBit_W8 b hb, testBit_W8 _ h8, ← Nat.testBit_and]
  congr 1
  by_cases hi : i / 8 < a.length
  · simp [hi, show i / 8 < b.length by omega, List.getElem?_zipWith]
  · simp [hi, show ¬ i / 8 < b.length by omega, List.getElem?_zipWith]
theorem W8_xor {a b : List Nat} (ha : B8 a) (hb : B8 b) (h : a.length = b.length) : W8 a ^^^ W8 b = W8 (List.zipWith (· ^^^ ·) a b) := by
  have h8 : B8 (List.zipWith (· ^^^ ·) a b) := by
    intro x hx
    obtain ⟨i, hi, rfl⟩ := List.getElem_of_mem hx
    rw [List.getElem_zipWith]
    rw [List.length_zipWith] at hi
    exact xor_lt (ha _ (List.getElem_mem _)) (hb _ (List.getElem_mem _))
  apply Nat.eq_of_testBit_eq
  intro i
  rw [Nat.testBit_xor, testBit_W8 a ha, testBit_W8 b hb, testBit_W8 _ h8, ← Nat.testBit_xor]
  congr 1
  by_cases hi : i / 8 < a.length
  · simp [hi, show i / 8 < b.length by omega, List.getElem?_zipWith]
  · simp [hi, show ¬ i / 8 < b.length by omega, List.getElem?_zipWith]
theorem W8_mul (k : Nat) : ∀ l : List Nat, W8 l * k = W8 (l.map (· * k))
  | [] => by simp [W8]
  | x :: l => by simp only [W8, List.map_cons]; rw [← W8_mul k l, Nat.add_mul, Nat.mul_assoc]
/-- A one in each byte. -/
theorem ones : W8 (List.replicate 8 1) = 72340172838076673 := by decide
theorem W8_rep (x : Nat) : x * 72340172838076673 = W8 (List.replicate 8 x) := by
  rw [← ones, Nat.mul_comm, W8_mul]
  simp
theorem bit_b8 (b : Nat) (l : List Nat) : B8 (l.map fun x => x / 2 ^ b % 2) := by
  intro x hx
  obtain ⟨y, _, rfl⟩ := List.mem_map.1 hx
  omega
/-- The bits at place b of each byte. -/
theorem W8_bits {l : List Nat} (h : B8 l) (hl : l.length = 8) {b : Nat} (hb : b < 8) : (W8 l) / 2 ^ b &&& 72340172838076673 = W8 (l.map fun x => x / 2 ^ b % 2) := by
  apply Nat.eq_of_testBit_eq
  intro i
  rw [Nat.testBit_and, ← ones, testBit_W8 _ (B8.of_all (by decide)), testBit_W8 _ (bit_b8 b l), Nat.testBit_div_two_pow, testBit_W8 l h]
  by_cases hi : i / 8 < 8
  · have e0 : (List.replicate 8 1).getD (i / 8) 0 = 1 := by rw [List.getD_eq_getElem?_getD, List.getElem?_replicate, if_pos hi]; rfl
    have e1 : (l.map fun x => x / 2 ^ b % 2).getD (i / 8) 0 = l.getD (i / 8) 0 / 2 ^ b % 2 := by simp [show i / 8 < l.length by omega]
    rw [e0, e1]
    by_cases h0 : i % 8 = 0
    · have e2 : (i + b) / 8 = i / 8 := by omega
      have e3 : (i + b) % 8 = b := by omega
      rw [h0, e2, e3]
      simp [Nat.testBit, Nat.shiftRight_eq_div_pow, Nat.and_one_is_mod]
    · have e4 : (1 : Nat).testBit (i % 8) = false := by
        rw [Nat.testBit_lt_two_pow (Nat.lt_of_lt_of_le (by decide : 1 < 2 ^ 1) (Nat.pow_le_pow_right (by decide) (by omega)))]
      have e5 : (l.getD (i / 8) 0 / 2 ^ b % 2).testBit (i % 8) = false := by
        rw [Nat.testBit_lt_two_pow (Nat.lt_of_lt_of_le (Nat.mod_lt _ (by decide) : _ < 2 ^ 1) (Nat.pow_le_pow_right (by decide) (by omega)))]
      rw [e4, e5, Bool.and_false]
  · have e0 : (List.replicate 8 1).getD (i / 8) 0 = 0 := by rw [List.getD_eq_getElem?_getD, List.getElem?_replicate, if_neg hi]; rfl
    have e1 : (l.map fun x => x / 2 ^ b % 2).getD (i / 8) 0 = 0 := by simp [show ¬ i / 8 < l.length by omega]
    rw [e0, e1]; simp

theorem and255 : ∀ p : Fin 256, 255 &&& p.val = p.val := by decide +kernel
/-- One column's part of a word's products. -/
theorem W8_part {l : List Nat} (h : B8 l) (hl : l.length = 8) {b p : Nat} (hb : b < 8) (hp : p < 256) : ((W8 l) / 2 ^ b &&& 72340172838076673) * 255 &&& p * 72340172838076673 = W8 (l.map fun x => if x / 2 ^ b % 2 = 1 then p else 0) := by
  rw [W8_bits h hl hb, W8_mul, W8_rep, W8_and]
  · congr 1
    apply ext8
    · simp [hl]
    · intro i hi
      have hi' : i < 8 := by simp [hl] at hi; exact hi
      have hil : i < l.length := by omega
      simp only [List.getD_eq_getElem?_getD, List.getElem?_zipWith, List.getElem?_map, List.getElem?_eq_getElem hil, List.getElem?_replicate, if_pos hi', Option.map_some, Option.getD_some]
      rcases Nat.mod_two_eq_zero_or_one (l[i] / 2 ^ b) with h0 | h0
      · simp [h0]
      · simp only [h0, Nat.one_mul, if_true]
        exact and255 ⟨p, hp⟩
  · intro x hx
    obtain ⟨y, hy, rfl⟩ := List.mem_map.1 hx
    obtain ⟨z, _, rfl⟩ := List.mem_map.1 hy
    have := Nat.mod_lt (z / 2 ^ b) (by decide : 0 < 2)
    show _ * 255 < 256
    have : z / 2 ^ b % 2 ≤ 1 := by omega
    omega
  · intro x hx
    rw [List.eq_of_mem_replicate hx]; exact hp
  · simp [hl]

/-- The sum of the first k columns that x names. -/
def cs (c x : Nat) : Nat → Nat
  | 0 => 0
  | k + 1 => cs c x k ^^^ (if x / 2 ^ k % 2 = 1 then gm c (2 ^ k) else 0)
theorem cs_lt {c : Nat} (hc : c < 256) (x : Nat) : ∀ k, cs c x k < 256
  | 0 => by simp [cs]
  | k + 1 => by
    refine xor_lt (cs_lt hc x k) ?_
    split
    · exact gm_lt _ hc
    · decide
theorem pow_xor {k i : Nat} (h : i < 2 ^ k) : 2 ^ k ^^^ i = 2 ^ k + i := by
  have h1 : 2 ^ k + i = 2 ^ k ||| i := by
    have := Nat.two_pow_add_eq_or_of_lt (b := i) (i := k) h 1
    simpa using this
  rw [h1]
  apply Nat.eq_of_testBit_eq
  intro j
  rw [Nat.testBit_xor, Nat.testBit_or, Nat.testBit_two_pow]
  by_cases hj : k = j
  · subst hj; rw [Nat.testBit_lt_two_pow h]; simp
  · simp [hj]
theorem cs_gm (c x : Nat) : ∀ k, cs c x k = gm c (x % 2 ^ k)
  | 0 => by simp [cs, Nat.mod_one, gm_zero_right]
  | k + 1 => by
    rw [cs, cs_gm c x k]
    have hm := Nat.mod_lt x (Nat.two_pow_pos k)
    have e : x % 2 ^ (k + 1) = x % 2 ^ k + 2 ^ k * (x / 2 ^ k % 2) := by rw [Nat.pow_succ, Nat.mod_mul]
    rcases Nat.mod_two_eq_zero_or_one (x / 2 ^ k) with h0 | h0
    · rw [if_neg (by omega), e, h0]; simp
    · rw [if_pos h0, ← gm_right, e, h0, Nat.mul_one, Nat.xor_comm, pow_xor hm, Nat.add_comm]
theorem cs_all {c x : Nat} (hx : x < 256) : cs c x 8 = gm c x := by rw [cs_gm, Nat.mod_eq_of_lt hx]
/-- One round of the word's product. -/
theorem W8_round {c : Nat} (hc : c < 256) {l : List Nat} (h : B8 l) (hl : l.length = 8) {k : Nat} (hk : k < 8) :
    W8 (l.map fun x => cs c x k) ^^^ (((W8 l) / 2 ^ k &&& 72340172838076673) * 255 &&& gm c (2 ^ k) * 72340172838076673) = W8 (l.map fun x => cs c x (k + 1)) := by
  rw [W8_part h hl hk (gm_lt _ hc), W8_xor]
  · congr 1
    apply ext8
    · simp [hl]
    · intro i hi
      have hi' : i < l.length := by simp at hi; exact hi
      simp [hi', cs]
  · intro x hx
    obtain ⟨y, _, rfl⟩ := List.mem_map.1 hx
    exact cs_lt hc y k
  · intro x hx
    obtain ⟨y, _, rfl⟩ := List.mem_map.1 hx
    show (if y / 2 ^ k % 2 = 1 then gm c (2 ^ k) else 0) < 256
    split
    · exact gm_lt _ hc
    · decide
  · simp
theorem W8_zero (l : List Nat) (c : Nat) : W8 (l.map fun x => cs c x 0) = 0 := by
  have : (l.map fun x => cs c x 0) = l.map (· * 0) := by simp [cs]
  rw [this, ← W8_mul]; simp
theorem W8_done {c : Nat} {l : List Nat} (h : B8 l) : W8 (l.map fun x => cs c x 8) = W8 (l.map (gm c)) := by
  congr 1
  exact List.map_congr_left fun x hx => cs_all (h x hx)

end Go.Proofs.Ytdbfkjhdnbmpeaa.Wd
