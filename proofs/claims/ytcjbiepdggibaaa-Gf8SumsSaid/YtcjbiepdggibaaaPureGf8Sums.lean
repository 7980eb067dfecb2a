/- The law Gf8Sums over numbers: the printed function answers true at every two bytes and every int. -/
import Derived.Test.YtcjbiepdggibaaaPGf8Sumsx2
import Derived.Test.YtcjbiepdggibaaaGf
import Derived.Test.YtcjbiepdggibaaaBt
namespace Go.Proofs.Ytcjbiepdggibaaa.Pure
open Go.RowKit Go.Proofs.Ytcjbiepdggibaaa.PGf8Sums Go.Proofs.YtcjbiepdggibaaaW.PrintWords Go.Proofs.YtcjbiepdggibaaaW.PrintLast

theorem land1 (b : Nat) (h : b < 256) : (Go.bits .and .u8 (b : Int) 1 = 0) ↔ b % 2 = 0 := by
  rw [show (1 : Int) = ((1 : Nat) : Int) from rfl, Bt.and8 h (by decide), Nat.and_one_is_mod]
  omega
theorem land256 (a : Nat) (h : a < 256) : (Go.bits .and .u64 (IntKind.u64.wrap ((a : Int) * 2)) 256 = 0) ↔ a < 128 := by
  rw [Bt.wrap_u64 _ (by omega) (by omega), show ((a : Int) * 2) = ((2 * a : Nat) : Int) from by omega, show (256 : Int) = ((256 : Nat) : Int) from rfl, Bt.and64 (by omega) (by decide)]
  have hh : ∀ x : Fin 256, ((2 * x.val) &&& 256 = 0 ↔ x.val < 128) := by decide +kernel
  have := hh ⟨a, h⟩
  simp only at this
  omega
theorem wrap2 (a : Nat) (h : a < 128) : IntKind.u64.wrap ((a : Int) * 2) = ((Gf.xt a : Nat) : Int) := by
  rw [Bt.wrap_u64 _ (by omega) (by omega)]; unfold Gf.xt; rw [if_pos h]; omega
theorem wrap2x (a : Nat) (h : ¬ a < 128) (h' : a < 256) : Go.bits .xor .u64 (IntKind.u64.wrap ((a : Int) * 2)) 285 = ((Gf.xt a : Nat) : Int) := by
  rw [Bt.wrap_u64 _ (by omega) (by omega), show ((a : Int) * 2) = ((2 * a : Nat) : Int) from by omega, show (285 : Int) = ((285 : Nat) : Int) from rfl, Bt.xor64 (by omega) (by decide)]
  unfold Gf.xt; rw [if_neg h]
theorem half (b : Nat) : ((b : Int) / 2) = ((b / 2 : Nat) : Int) := by omega

theorem mul_l0 : ∀ (n k a b p : Nat), a < 256 → p < 256 → b < 256 → b < 2 ^ n → n < k → gf8_Mul.l0 k (b : Int) (a : Int) (p : Int) = some ((Gf.ml n a b p : Nat) : Int) := by
  intro n
  induction n with
  | zero =>
    intro k a b p ha hp _ hb hk
    obtain ⟨k, rfl⟩ : ∃ m, k = m + 1 := ⟨k - 1, by omega⟩
    have : b = 0 := by simpa using hb
    subst this
    simp only [gf8_Mul.l0]
    rw [if_pos (show ((0 : Nat) : Int) = 0 from rfl)]
    show some ((p : Int) % 256) = some (p : Int)
    rw [show ((p : Int) % 256) = p from by omega]
  | succ n ih =>
    intro k a b p ha hp hb8 hb hk
    obtain ⟨k, rfl⟩ : ∃ m, k = m + 1 := ⟨k - 1, by omega⟩
    by_cases h0 : b = 0
    · subst h0
      simp only [gf8_Mul.l0]
      rw [if_pos (show ((0 : Nat) : Int) = 0 from rfl), Gf.ml_zero_right]
      rw [show ((p : Int) % 256) = p from by omega]
    · have hb2 : b / 2 < 2 ^ n := by rw [Nat.pow_succ] at hb; omega
      have hx := Gf.xt_lt ha
      simp only [gf8_Mul.l0]
      rw [if_neg (by omega)]
      unfold Gf.ml
      by_cases h1 : b % 2 = 0
      · rw [if_pos ((land1 b hb8).2 h1), if_neg (show ¬ b % 2 = 1 by omega)]
        by_cases h2 : a < 128
        · rw [if_pos ((land256 a ha).2 h2), wrap2 a h2, half]
          exact ih k _ _ _ hx hp (by omega) hb2 (by omega)
        · rw [if_neg (fun h => h2 ((land256 a ha).1 h)), wrap2x a h2 ha, half]
          exact ih k _ _ _ hx hp (by omega) hb2 (by omega)
      · rw [if_neg (fun h => h1 ((land1 b hb8).1 h)), if_pos (show b % 2 = 1 by omega)]
        have hpx := Gf.xor_lt hp ha
        by_cases h2 : a < 128
        · rw [if_pos ((land256 a ha).2 h2), wrap2 a h2, half, Bt.xor64 (by omega) (by omega)]
          exact ih k _ _ _ hx hpx (by omega) hb2 (by omega)
        · rw [if_neg (fun h => h2 ((land256 a ha).1 h)), wrap2x a h2 ha, half, Bt.xor64 (by omega) (by omega)]
          exact ih k _ _ _ hx hpx (by omega) hb2 (by omega)

theorem mul_f {k a b : Nat} (ha : a < 256) (hb : b < 256) (hk : 8 < k) : gf8_Mul.f k (a : Int) (b : Int) = some ((Gf.gm a b : Nat) : Int) := by
  unfold gf8_Mul.f
  rw [Bt.wrap_u64 _ (by omega) (by omega)]
  exact mul_l0 8 k a b 0 ha (by decide) hb (by simpa using hb) hk

theorem landi (r : Nat) (h : r < 256) : (Go.bits .and .i64 (r : Int) 1 = 0) ↔ r % 2 = 0 := by
  rw [show (1 : Int) = ((1 : Nat) : Int) from rfl, Bt.andi64 (by omega) (by decide), Nat.and_one_is_mod]
  omega
theorem power_l0 : ∀ (n k a r p : Nat), a < 256 → p < 256 → r < 256 → r < 2 ^ n → n + 9 < k → gf8_power.l0 k (a : Int) (r : Int) (p : Int) = some ((Gf.sq n a r p : Nat) : Int) := by
  intro n
  induction n with
  | zero =>
    intro k a r p ha hp _ hr hk
    obtain ⟨k, rfl⟩ : ∃ m, k = m + 1 := ⟨k - 1, by omega⟩
    have : r = 0 := by simpa using hr
    subst this
    simp only [gf8_power.l0]
    rw [if_neg (by decide)]
    rfl
  | succ n ih =>
    intro k a r p ha hp hr8 hr hk
    obtain ⟨k, rfl⟩ : ∃ m, k = m + 1 := ⟨k - 1, by omega⟩
    have hr2 : r / 2 < 2 ^ n := by rw [Nat.pow_succ] at hr; omega
    simp only [gf8_power.l0]
    by_cases h0 : r = 0
    · subst h0
      rw [if_neg (by decide)]
      have : ∀ m a p, Gf.sq m a 0 p = p := by
        intro m
        induction m with
        | zero => intro a p; rfl
        | succ m ih => intro a p; exact ih _ _
      rw [this]
    · rw [if_pos (by omega), half]
      unfold Gf.sq
      by_cases h1 : r % 2 = 0
      · rw [if_pos ((landi r hr8).2 h1), if_neg (show ¬ r % 2 = 1 by omega), mul_f ha ha (by omega)]
        exact ih k _ _ _ (Gf.gm_lt _ ha) hp (by omega) hr2 (by omega)
      · rw [if_neg (fun h => h1 ((landi r hr8).1 h)), if_pos (show r % 2 = 1 by omega), mul_f hp ha (by omega)]
        simp only [Bt.obs]
        rw [mul_f ha ha (by omega)]
        exact ih k _ _ _ (Gf.gm_lt _ ha) (Gf.gm_lt _ hp) (by omega) hr2 (by omega)

theorem power_f {k a r : Nat} (ha : a < 256) (hr : r < 256) (hk : 17 < k) : gf8_power.f k (a : Int) (r : Int) = some ((Gf.pw a r : Nat) : Int) := by
  unfold gf8_power.f
  have := power_l0 8 k a r 1 ha (by decide) hr (by simpa using hr) (by omega)
  rw [Gf.sq_pw ha (by simpa using hr)] at this
  exact this
theorem inv_f {k a : Nat} (ha : a < 256) (hk : 17 < k) : gf8_Inv.f k (a : Int) = some (if a = 0 then (0, 20) else (((Gf.pw a 254 : Nat) : Int), 0)) := by
  unfold gf8_Inv.f
  by_cases h : a = 0
  · rw [if_pos (by omega), if_pos h]
  · rw [if_neg (by omega), if_neg h]
    have := power_f (k := k) (r := 254) ha (by decide) hk
    rw [show ((254 : Nat) : Int) = 254 from rfl] at this
    rw [this]; rfl
theorem awake_f {k : Nat} (hk : 17 < k) : culletlaw02_awake.f k = some true := by
  unfold culletlaw02_awake.f
  have h1 := inv_f (k := k) (a := 2) (by decide) hk
  have h2 := mul_f (k := k) (a := 3) (b := 7) (by decide) (by decide) (by omega)
  have h3 := mul_f (k := k) (a := 2) (b := 128) (by decide) (by decide) (by omega)
  rw [show Gf.gm 3 7 = 9 from by decide +kernel] at h2
  rw [show Gf.gm 2 128 = 29 from by decide +kernel] at h3
  rw [if_neg (by decide), show Gf.pw 2 254 = 142 from by decide +kernel] at h1
  rw [show ((2 : Nat) : Int) = 2 from rfl] at h1
  rw [show ((3 : Nat) : Int) = 3 from rfl, show ((7 : Nat) : Int) = 7 from rfl] at h2
  rw [show ((2 : Nat) : Int) = 2 from rfl, show ((128 : Nat) : Int) = 128 from rfl] at h3
  rw [h1, h2, h3]
  rfl

theorem tmod_neg (n : Int) (h : n < 0) : Int.tmod n 255 = -((-n) % 255) := by
  rw [show n = -(-n) from by omega, Int.neg_tmod, Int.tmod_eq_emod_of_nonneg (by omega)]
  simp
theorem remainder_f (n : Int) : gf8_remainder.f n = some (n % 255) := by
  unfold gf8_remainder.f
  by_cases h : n < 0
  · rw [tmod_neg n h]
    by_cases h2 : -(-n % 255) < 0
    · rw [if_pos h2]
      have : wrap64 (-(-n % 255) + 255) = n % 255 := by unfold wrap64; omega
      rw [this]
    · rw [if_neg h2, show -(-n % 255) = n % 255 from by omega]
  · rw [Int.tmod_eq_emod_of_nonneg (by omega), if_neg (by omega)]

/-- What Pow answers. -/
def po (a : Nat) (n : Int) : Int × Int :=
  if n = 0 then (1, 0) else if a = 0 then (if n > 0 then (0, 0) else (0, 20)) else (((Gf.pw a (n % 255).toNat : Nat) : Int), 0)

theorem pow_f {k a : Nat} (ha : a < 256) (hk : 17 < k) (n : Int) : gf8_Pow.f k (a : Int) n = some (po a n) := by
  unfold gf8_Pow.f po
  by_cases h : n = 0
  · rw [if_pos h, if_pos h]
  · rw [if_neg h, if_neg h]
    by_cases h2 : a = 0
    · rw [if_pos (show (a : Int) = 0 by omega), if_pos h2]
      split <;> rfl
    · rw [if_neg (show ¬ (a : Int) = 0 by omega), if_neg h2, remainder_f]
      simp only [Bt.obs]
      have e : n % 255 = (((n % 255).toNat : Nat) : Int) := by omega
      have := power_f (k := k) (r := (n % 255).toNat) ha (by omega) hk
      rw [← e] at this
      rw [this]
      rfl

theorem pw_succ_mod {a : Nat} (ha : a < 256) (h0 : a ≠ 0) (n : Int) : Gf.pw a ((n + 1) % 255).toNat = Gf.gm (Gf.pw a (n % 255).toNat) a := by
  have h := Gf.pw_mod ha h0 ((n % 255).toNat + 1)
  have e : ((n % 255).toNat + 1) % 255 = ((n + 1) % 255).toNat := by omega
  rw [e] at h
  exact h.symm

theorem pw_neg_mod {a : Nat} (ha : a < 256) (h0 : a ≠ 0) (n : Int) : Gf.gm (Gf.pw a (n % 255).toNat) (Gf.pw a ((-n) % 255).toNat) = 1 := by
  rw [← Gf.pw_add ha, Gf.pw_mod ha h0]
  have e : ((n % 255).toNat + ((-n) % 255).toNat) % 255 = 0 := by omega
  rw [e]; rfl

theorem po_val {a : Nat} (h0 : a ≠ 0) (n : Int) : po a n = (((Gf.pw a (n % 255).toNat : Nat) : Int), 0) := by
  unfold po
  by_cases h : n = 0
  · subst h; rfl
  · rw [if_neg h, if_neg h0]

theorem j2_true {k : Nat} (a : Int) (n : Int) (hk : 0 < k) : culletlaw02_Gf8Sums.j2 k a n true = some true := by
  obtain ⟨k, rfl⟩ : ∃ m, k = m + 1 := ⟨k - 1, by omega⟩
  simp only [culletlaw02_Gf8Sums.j2]; rfl

theorem j2_false {k a : Nat} (ha : a < 256) (h0 : a ≠ 0) (n : Int) (h1 : -9223372036854775808 < n) (h2 : n < 9223372036854775807) (hk : 18 < k) : culletlaw02_Gf8Sums.j2 k (a : Int) n false = some true := by
  obtain ⟨k, rfl⟩ : ∃ m, k = m + 1 := ⟨k - 1, by omega⟩
  have hk' : 17 < k := by omega
  simp only [culletlaw02_Gf8Sums.j2]
  have w1 : wrap64 (n + 1) = n + 1 := by unfold wrap64; omega
  have w2 : wrap64 (-n) = -n := by unfold wrap64; omega
  rw [if_neg (by decide), w1, w2, pow_f ha hk', pow_f ha hk', pow_f ha hk', pow_f ha hk', po_val h0, po_val h0, po_val h0, po_val h0]
  simp only [Bt.obs, if_true]
  have hp := Gf.pw_lt ha (n % 255).toNat
  rw [mul_f hp ha (by omega), pw_succ_mod ha h0]
  simp only [Bt.obs, if_true]
  rw [mul_f hp (Gf.pw_lt ha _) (by omega), pw_neg_mod ha h0]
  rfl

theorem j1_false {k a : Nat} (ha : a < 256) (n : Int) (h1 : -9223372036854775808 ≤ n) (h2 : n ≤ 9223372036854775807) (hk : 19 < k) : culletlaw02_Gf8Sums.j1 k (a : Int) n false = some true := by
  obtain ⟨k, rfl⟩ : ∃ m, k = m + 1 := ⟨k - 1, by omega⟩
  simp only [culletlaw02_Gf8Sums.j1]
  rw [if_neg (by decide)]
  by_cases c1 : (a : Int) = 0
  · rw [if_pos c1]; exact j2_true _ _ (by omega)
  · rw [if_neg c1]
    by_cases c2 : n = 9223372036854775807
    · rw [if_pos c2]; exact j2_true _ _ (by omega)
    · rw [if_neg c2]
      by_cases c3 : n = -9223372036854775808
      · rw [beq_iff_eq.mpr c3]; exact j2_true _ _ (by omega)
      · rw [beq_eq_false_iff_ne.mpr c3]
        exact j2_false ha (by omega) n (by omega) (by omega) (by omega)

theorem j0_false {k a : Nat} (ha : a < 256) (n : Int) (h1 : -9223372036854775808 ≤ n) (h2 : n ≤ 9223372036854775807) (hk : 20 < k) : culletlaw02_Gf8Sums.j0 k (a : Int) n false = some true := by
  obtain ⟨k, rfl⟩ : ∃ m, k = m + 1 := ⟨k - 1, by omega⟩
  simp only [culletlaw02_Gf8Sums.j0]
  have hp := pow_f (k := k) (a := 0) (by decide) (by omega) n
  rw [show ((0 : Nat) : Int) = 0 from rfl] at hp
  rw [if_neg (by decide), hp]
  simp only [Bt.obs]
  have hj := j1_false ha n h1 h2 (k := k) (by omega)
  rcases Int.lt_trichotomy n 0 with c | c | c
  · have e : po 0 n = (0, 20) := by unfold po; rw [if_neg (by omega), if_pos rfl, if_neg (by omega)]
    rw [e, if_neg (by omega), if_neg (by omega), if_pos (by omega)]
    exact hj
  · subst c
    have e : po 0 0 = (1, 0) := rfl
    rw [e]
    exact hj
  · have e : po 0 n = (0, 0) := by unfold po; rw [if_neg (by omega), if_pos rfl, if_pos c]
    rw [e]
    simp only [if_true]
    rw [if_pos c, if_neg (by omega), if_neg (by omega)]
    exact hj

theorem Gf8Sums : culletlaw02_Gf8Sums.Pure := by
  intro a b n ga gb gn
  obtain ⟨a, rfl, ha⟩ := Bt.byte_of ga
  obtain ⟨b, rfl, hb⟩ := Bt.byte_of gb
  have hn : -9223372036854775808 ≤ n ∧ n ≤ 9223372036854775807 := by
    simp [Lit.wf, IntKind.min, IntKind.max, IntKind.bits, IntKind.signed] at gn
    omega
  refine ⟨22, ?_⟩
  unfold culletlaw02_Gf8Sums.f
  rw [awake_f (by decide)]
  simp only [Bt.obs, if_true]
  have po2 : ∀ x : Nat, x < 256 → po x 2 = (((Gf.pw x 2 : Nat) : Int), 0) := by
    intro x _
    unfold po
    rw [if_neg (by decide)]
    by_cases h : x = 0
    · subst h; rfl
    · rw [if_neg h]; rfl
  rw [Bt.xor8 ha hb, pow_f (Gf.xor_lt ha hb) (by decide), pow_f ha (by decide), pow_f hb (by decide), po2 _ ha, po2 _ hb, po2 _ (Gf.xor_lt ha hb)]
  simp only [Bt.obs, if_true]
  rw [Bt.xor8 (Gf.pw_lt ha _) (Gf.pw_lt hb _), Gf.pw_xor_two ha hb, bne_eq_false_iff_eq.mpr rfl]
  exact j0_false ha n hn.1 hn.2 (by decide)

end Go.Proofs.Ytcjbiepdggibaaa.Pure
