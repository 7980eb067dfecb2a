/- The law Gf8Field over numbers: the printed function answers true at every three bytes. -/
import Derived.Test.YtcjbiepdggibaaaPGf8Fieldx1
import Derived.Test.YtcjbiepdggibaaaGf
import Derived.Test.YtcjbiepdggibaaaBt
namespace Go.Proofs.Ytcjbiepdggibaaa.Pure
open Go.RowKit Go.Proofs.Ytcjbiepdggibaaa.PGf8Field Go.Proofs.YtcjbiepdggibaaaW.PrintWords Go.Proofs.YtcjbiepdggibaaaW.PrintLast

theorem land1 (b : Nat) (h : b < 256) : (Go.bits .and .u8 (b : Int) 1 = 0) ↔ b % 2 = 0 := by
  rw [show (1 : Int) = ((1 : Nat) : Int) from rfl, Bt.and8 h (by decide), Nat.and_one_is_mod]
  omega
theorem land256 (a : Nat) (h : a < 256) : (Go.bits .and .u64 (IntKind.u64.wrap ((a : Int) * 2)) 256 = 0) ↔ a < 128 := by
  rw [Bt.wrap_u64 _ (by omega) (by omega), show ((a : Int) * 2) = ((2 * a : Nat) : Int) from by omega, show (256 : Int) = ((256 : Nat) : Int) from rfl, Bt.and64 (by omega) (by decide)]
  have hh : ∀ x : Fin 256, ((2 * x.val) &&& 256 = 0 ↔ x.val < 128) := by decide +kernel
  have := hh ⟨a, h⟩
  simp only at this
  omega
theorem wrap2 (a : Nat) (h : a < 128) : IntKind.u64.wrap ((a : Int) * 2) = ((Gf.xt a : Nat) : Int) := by
  rw [Bt.wrap_u64 _ (by omega) (by omega)]; unfold Gf.xt; rw [if_pos h]; omega
theorem wrap2x (a : Nat) (h : ¬ a < 128) (h' : a < 256) : Go.bits .xor .u64 (IntKind.u64.wrap ((a : Int) * 2)) 285 = ((Gf.xt a : Nat) : Int) := by
  rw [Bt.wrap_u64 _ (by omega) (by omega), show ((a : Int) * 2) = ((2 * a : Nat) : Int) from by omega, show (285 : Int) = ((285 : Nat) : Int) from rfl, Bt.xor64 (by omega) (by decide)]
  unfold Gf.xt; rw [if_neg h]
theorem half (b : Nat) : ((b : Int) / 2) = ((b / 2 : Nat) : Int) := by omega

theorem mul_l0 : ∀ (n k a b p : Nat), a < 256 → p < 256 → b < 256 → b < 2 ^ n → n < k → gf8_Mul.l0 k (b : Int) (a : Int) (p : Int) = some ((Gf.ml n a b p : Nat) : Int) := by
  intro n
  induction n with
  | zero =>
    intro k a b p ha hp _ hb hk
    obtain ⟨k, rfl⟩ : ∃ m, k = m + 1 := ⟨k - 1, by omega⟩
    have : b = 0 := by simpa using hb
    subst this
    simp only [gf8_Mul.l0]
    rw [if_pos (show ((0 : Nat) : Int) = 0 from rfl)]
    show some ((p : Int) % 256) = some (p : Int)
    rw [show ((p : Int) % 256) = p from by omega]
  | succ n ih =>
    intro k a b p ha hp hb8 hb hk
    obtain ⟨k, rfl⟩ : ∃ m, k = m + 1 := ⟨k - 1, by omega⟩
    by_cases h0 : b = 0
    · subst h0
      simp only [gf8_Mul.l0]
      rw [if_pos (show ((0 : Nat) : Int) = 0 from rfl), Gf.ml_zero_right]
      rw [show ((p : Int) % 256) = p from by omega]
    · have hb2 : b / 2 < 2 ^ n := by rw [Nat.pow_succ] at hb; omega
      have hx := Gf.xt_lt ha
      simp only [gf8_Mul.l0]
      rw [if_neg (by omega)]
      unfold Gf.ml
      by_cases h1 : b % 2 = 0
      · rw [if_pos ((land1 b hb8).2 h1), if_neg (show ¬ b % 2 = 1 by omega)]
        by_cases h2 : a < 128
        · rw [if_pos ((land256 a ha).2 h2), wrap2 a h2, half]
          exact ih k _ _ _ hx hp (by omega) hb2 (by omega)
        · rw [if_neg (fun h => h2 ((land256 a ha).1 h)), wrap2x a h2 ha, half]
          exact ih k _ _ _ hx hp (by omega) hb2 (by omega)
      · rw [if_neg (fun h => h1 ((land1 b hb8).1 h)), if_pos (show b % 2 = 1 by omega)]
        have hpx := Gf.xor_lt hp ha
        by_cases h2 : a < 128
        · rw [if_pos ((land256 a ha).2 h2), wrap2 a h2, half, Bt.xor64 (by omega) (by omega)]
          exact ih k _ _ _ hx hpx (by omega) hb2 (by omega)
        · rw [if_neg (fun h => h2 ((land256 a ha).1 h)), wrap2x a h2 ha, half, Bt.xor64 (by omega) (by omega)]
          exact ih k _ _ _ hx hpx (by omega) hb2 (by omega)

theorem mul_f {k a b : Nat} (ha : a < 256) (hb : b < 256) (hk : 8 < k) : gf8_Mul.f k (a : Int) (b : Int) = some ((Gf.gm a b : Nat) : Int) := by
  unfold gf8_Mul.f
  rw [Bt.wrap_u64 _ (by omega) (by omega)]
  exact mul_l0 8 k a b 0 ha (by decide) hb (by simpa using hb) hk

theorem landi (r : Nat) (h : r < 256) : (Go.bits .and .i64 (r : Int) 1 = 0) ↔ r % 2 = 0 := by
  rw [show (1 : Int) = ((1 : Nat) : Int) from rfl, Bt.andi64 (by omega) (by decide), Nat.and_one_is_mod]
  omega
theorem power_l0 : ∀ (n k a r p : Nat), a < 256 → p < 256 → r < 256 → r < 2 ^ n → n + 9 < k → gf8_power.l0 k (a : Int) (r : Int) (p : Int) = some ((Gf.sq n a r p : Nat) : Int) := by
  intro n
  induction n with
  | zero =>
    intro k a r p ha hp _ hr hk
    obtain ⟨k, rfl⟩ : ∃ m, k = m + 1 := ⟨k - 1, by omega⟩
    have : r = 0 := by simpa using hr
    subst this
    simp only [gf8_power.l0]
    rw [if_neg (by decide)]
    rfl
  | succ n ih =>
    intro k a r p ha hp hr8 hr hk
    obtain ⟨k, rfl⟩ : ∃ m, k = m + 1 := ⟨k - 1, by omega⟩
    have hr2 : r / 2 < 2 ^ n := by rw [Nat.pow_succ] at hr; omega
    simp only [gf8_power.l0]
    by_cases h0 : r = 0
    · subst h0
      rw [if_neg (by decide)]
      have : ∀ m a p, Gf.sq m a 0 p = p := by
        intro m
        induction m with
        | zero => intro a p; rfl
        | succ m ih => intro a p; exact ih _ _
      rw [this]
    · rw [if_pos (by omega), half]
      unfold Gf.sq
      by_cases h1 : r % 2 = 0
      · rw [if_pos ((landi r hr8).2 h1), if_neg (show ¬ r % 2 = 1 by omega), mul_f ha ha (by omega)]
        exact ih k _ _ _ (Gf.gm_lt _ ha) hp (by omega) hr2 (by omega)
      · rw [if_neg (fun h => h1 ((landi r hr8).1 h)), if_pos (show r % 2 = 1 by omega), mul_f hp ha (by omega)]
        simp only [Bt.obs]
        rw [mul_f ha ha (by omega)]
        exact ih k _ _ _ (Gf.gm_lt _ ha) (Gf.gm_lt _ hp) (by omega) hr2 (by omega)

theorem power_f {k a r : Nat} (ha : a < 256) (hr : r < 256) (hk : 17 < k) : gf8_power.f k (a : Int) (r : Int) = some ((Gf.pw a r : Nat) : Int) := by
  unfold gf8_power.f
  have := power_l0 8 k a r 1 ha (by decide) hr (by simpa using hr) (by omega)
  rw [Gf.sq_pw ha (by simpa using hr)] at this
  exact this
theorem inv_f {k a : Nat} (ha : a < 256) (hk : 17 < k) : gf8_Inv.f k (a : Int) = some (if a = 0 then (0, 20) else (((Gf.pw a 254 : Nat) : Int), 0)) := by
  unfold gf8_Inv.f
  by_cases h : a = 0
  · rw [if_pos (by omega), if_pos h]
  · rw [if_neg (by omega), if_neg h]
    have := power_f (k := k) (r := 254) ha (by decide) hk
    rw [show ((254 : Nat) : Int) = 254 from rfl] at this
    rw [this]; rfl
theorem awake_f {k : Nat} (hk : 17 < k) : culletlaw02_awake.f k = some true := by
  unfold culletlaw02_awake.f
  have h1 := inv_f (k := k) (a := 2) (by decide) hk
  have h2 := mul_f (k := k) (a := 3) (b := 7) (by decide) (by decide) (by omega)
  have h3 := mul_f (k := k) (a := 2) (b := 128) (by decide) (by decide) (by omega)
  rw [show Gf.gm 3 7 = 9 from by decide +kernel] at h2
  rw [show Gf.gm 2 128 = 29 from by decide +kernel] at h3
  rw [if_neg (by decide), show Gf.pw 2 254 = 142 from by decide +kernel] at h1
  rw [show ((2 : Nat) : Int) = 2 from rfl] at h1
  rw [show ((3 : Nat) : Int) = 3 from rfl, show ((7 : Nat) : Int) = 7 from rfl] at h2
  rw [show ((2 : Nat) : Int) = 2 from rfl, show ((128 : Nat) : Int) = 128 from rfl] at h3
  rw [h1, h2, h3]
  rfl

theorem twice_f {a : Nat} (ha : a < 256) : culletlaw02_twice.f (a : Int) = some ((Gf.xt a : Nat) : Int) := by
  have e1 : wrap64 ((a : Int)) = a := by unfold wrap64; omega
  have e2 : wrap64 ((a : Int) * 2) = ((2 * a : Nat) : Int) := by unfold wrap64; omega
  unfold culletlaw02_twice.f
  rw [e1, e2]
  unfold Gf.xt
  by_cases h : a < 128
  · rw [if_neg (by omega), if_pos h, show (((2 * a : Nat) : Int) % 256) = ((2 * a : Nat) : Int) from by omega]
  · rw [if_pos (by omega), if_neg h]
    have hl := Gf.xt_lt ha
    unfold Gf.xt at hl
    rw [if_neg h] at hl
    have hx : Go.bits .xor .i64 ((2 * a : Nat) : Int) 285 = (((2 * a) ^^^ 285 : Nat) : Int) := Bt.xori64 (a := 2 * a) (b := 285) (by omega) (by decide)
    rw [hx, show ((((2 * a) ^^^ 285 : Nat) : Int) % 256) = (((2 * a) ^^^ 285 : Nat) : Int) from by omega]

theorem Gf8Field : culletlaw02_Gf8Field.Pure := by
  intro a b c ga gb gc
  obtain ⟨a, rfl, ha⟩ := Bt.byte_of ga
  obtain ⟨b, rfl, hb⟩ := Bt.byte_of gb
  obtain ⟨c, rfl, hc⟩ := Bt.byte_of gc
  refine ⟨20, ?_⟩
  have hab := Gf.gm_lt b ha
  have hbc := Gf.gm_lt c hb
  unfold culletlaw02_Gf8Field.f
  rw [awake_f (by decide)]
  simp only [Bt.obs, if_true]
  rw [mul_f ha hb (by decide), mul_f hb ha (by decide), Gf.gm_comm hb ha]
  simp only [Bt.obs, if_true]
  rw [mul_f hab hc (by decide), mul_f hb hc (by decide)]
  simp only [Bt.obs]
  rw [mul_f ha hbc (by decide), Gf.gm_assoc ha hb hc]
  simp only [Bt.obs]
  rw [bne_eq_false_iff_eq.mpr rfl]
  have h1 := mul_f (k := 19) (a := a) (b := 1) ha (by decide) (by decide)
  have h2 := mul_f (k := 19) (a := 2) (b := a) (by decide) ha (by decide)
  rw [show ((1 : Nat) : Int) = 1 from rfl, Gf.gm_one ha] at h1
  rw [show ((2 : Nat) : Int) = 2 from rfl, Gf.gm_two ha] at h2
  have hac := Gf.gm_lt c ha
  have hx : Go.bits .xor .u8 (b : Int) (c : Int) = ((b ^^^ c : Nat) : Int) := Bt.xor8 hb hc
  have hy : Go.bits .xor .u8 ((Gf.gm a b : Nat) : Int) ((Gf.gm a c : Nat) : Int) = ((Gf.gm a b ^^^ Gf.gm a c : Nat) : Int) := Bt.xor8 hab hac
  have h3 := mul_f (k := 19) ha (Gf.xor_lt hb hc) (by decide)
  have h4 := mul_f (k := 19) ha hc (by decide)
  have hz : (Gf.gm a b = 0) ↔ (a = 0 ∨ b = 0) := by
    constructor
    · intro h
      by_cases h0 : a = 0
      · exact .inl h0
      · exact .inr (Gf.gm_ne_zero ha hb h0 h)
    · rintro (h | h)
      · rw [h]; exact Gf.gm_zero_left b
      · rw [h]; exact Gf.gm_zero_right a
  simp only [culletlaw02_Gf8Field.j0]
  rw [if_neg (by decide), hx, h3]
  simp only [Bt.obs]
  rw [h4]
  simp only [Bt.obs]
  rw [hy, Gf.gm_right, if_pos rfl, h1]
  simp only [Bt.obs, if_true]
  rw [h2]
  simp only [Bt.obs]
  rw [twice_f ha]
  simp only [Bt.obs, if_true]
  by_cases e : a = 0
  · subst e
    rw [if_pos (show ((0 : Nat) : Int) = 0 from rfl), Gf.gm_zero_left]
    rfl
  · rw [if_neg (by omega)]
    congr 1
    by_cases e2 : b = 0
    · subst e2
      rw [Gf.gm_zero_right]
      rfl
    · have hne : Gf.gm a b ≠ 0 := fun h => (hz.1 h).elim e e2
      rw [beq_eq_false_iff_ne.mpr (show ((Gf.gm a b : Nat) : Int) ≠ 0 from by omega), beq_eq_false_iff_ne.mpr (show (b : Int) ≠ 0 from by omega)]
      rfl


end Go.Proofs.Ytcjbiepdggibaaa.Pure
