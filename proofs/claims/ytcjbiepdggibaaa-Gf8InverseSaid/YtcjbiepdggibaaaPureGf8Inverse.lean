/- The law Gf8Inverse over numbers: the printed function answers true at every two bytes. -/
import Derived.Test.YtcjbiepdggibaaaPGf8Inversex1
import Derived.Test.YtcjbiepdggibaaaGf
import Derived.Test.YtcjbiepdggibaaaBt
namespace Go.Proofs.Ytcjbiepdggibaaa.Pure
open Go.RowKit Go.Proofs.Ytcjbiepdggibaaa.PGf8Inverse Go.Proofs.YtcjbiepdggibaaaW.PrintWords Go.Proofs.YtcjbiepdggibaaaW.PrintLast

theorem land1 (b : Nat) (h : b < 256) : (Go.bits .and .u8 (b : Int) 1 = 0) ↔ b % 2 = 0 := by
  rw [show (1 : Int) = ((1 : Nat) : Int) from rfl, Bt.and8 h (by decide), Nat.and_one_is_mod]
  omega
theorem land256 (a : Nat) (h : a < 256) : (Go.bits .and .u64 (IntKind.u64.wrap ((a : Int) * 2)) 256 = 0) ↔ a < 128 := by
  rw [Bt.wrap_u64 _ (by omega) (by omega), show ((a : Int) * 2) = ((2 * a : Nat) : Int) from by omega, show (256 : Int) = ((256 : Nat) : Int) from rfl, Bt.and64 (by omega) (by decide)]
  have hh : ∀ x : Fin 256, ((2 * x.val) &&& 256 = 0 ↔ x.val < 128) := by decide +kernel
  have := hh ⟨a, h⟩
  simp only at this
  omega
theorem wrap2 (a : Nat) (h : a < 128) : IntKind.u64.wrap ((a : Int) * 2) = ((Gf.xt a : Nat) : Int) := by
  rw [Bt.wrap_u64 _ (by omega) (by omega)]; unfold Gf.xt; rw [if_pos h]; omega
theorem wrap2x (a : Nat) (h : ¬ a < 128) (h' : a < 256) : Go.bits .xor .u64 (IntKind.u64.wrap ((a : Int) * 2)) 285 = ((Gf.xt a : Nat) : Int) := by
  rw [Bt.wrap_u64 _ (by omega) (by omega), show ((a : Int) * 2) = ((2 * a : Nat) : Int) from by omega, show (285 : Int) = ((285 : Nat) : Int) from rfl, Bt.xor64 (by omega) (by decide)]
  unfold Gf.xt; rw [if_neg h]
theorem half (b : Nat) : ((b : Int) / 2) = ((b / 2 : Nat) : Int) := by omega

theorem mul_l0 : ∀ (n k a b p : Nat), a < 256 → p < 256 → b < 256 → b < 2 ^ n → n < k → gf8_Mul.l0 k (b : Int) (a : Int) (p : Int) = some ((Gf.ml n a b p : Nat) : Int) := by
  intro n
  induction n with
  | zero =>
    intro k a b p ha hp _ hb hk
    obtain ⟨k, rfl⟩ : ∃ m, k = m + 1 := ⟨k - 1, by omega⟩
    have : b = 0 := by simpa using hb
    subst this
    simp only [gf8_Mul.l0]
    rw [if_pos (show ((0 : Nat) : Int) = 0 from rfl)]
    show some ((p : Int) % 256) = some (p : Int)
    rw [show ((p : Int) % 256) = p from by omega]
  | succ n ih =>
    intro k a b p ha hp hb8 hb hk
    obtain ⟨k, rfl⟩ : ∃ m, k = m + 1 := ⟨k - 1, by omega⟩
    by_cases h0 : b = 0
    · subst h0
      simp only [gf8_Mul.l0]
      rw [if_pos (show ((0 : Nat) : Int) = 0 from rfl), Gf.ml_zero_right]
      rw [show ((p : Int) % 256) = p from by omega]
    · have hb2 : b / 2 < 2 ^ n := by rw [Nat.pow_succ] at hb; omega
      have hx := Gf.xt_lt ha
      simp only [gf8_Mul.l0]
      rw [if_neg (by omega)]
      unfold Gf.ml
      by_cases h1 : b % 2 = 0
      · rw [if_pos ((land1 b hb8).2 h1), if_neg (show ¬ b % 2 = 1 by omega)]
        by_cases h2 : a < 128
        · rw [if_pos ((land256 a ha).2 h2), wrap2 a h2, half]
          exact ih k _ _ _ hx hp (by omega) hb2 (by omega)
        · rw [if_neg (fun h => h2 ((land256 a ha).1 h)), wrap2x a h2 ha, half]
          exact ih k _ _ _ hx hp (by omega) hb2 (by omega)
      · rw [if_neg (fun h => h1 ((land1 b hb8).1 h)), if_pos (show b % 2 = 1 by omega)]
        have hpx := Gf.xor_lt hp ha
        by_cases h2 : a < 128
        · rw [if_pos ((land256 a ha).2 h2), wrap2 a h2, half, Bt.xor64 (by omega) (by omega)]
          exact ih k _ _ _ hx hpx (by omega) hb2 (by omega)
        · rw [if_neg (fun h => h2 ((land256 a ha).1 h)), wrap2x a h2 ha, half, Bt.xor64 (by omega) (by omega)]
          exact ih k _ _ _ hx hpx (by omega) hb2 (by omega)

theorem mul_f {k a b : Nat} (ha : a < 256) (hb : b < 256) (hk : 8 < k) : gf8_Mul.f k (a : Int) (b : Int) = some ((Gf.gm a b : Nat) : Int) := by
  unfold gf8_Mul.f
  rw [Bt.wrap_u64 _ (by omega) (by omega)]
  exact mul_l0 8 k a b 0 ha (by decide) hb (by simpa using hb) hk

theorem landi (r : Nat) (h : r < 256) : (Go.bits .and .i64 (r : Int) 1 = 0) ↔ r % 2 = 0 := by
  rw [show (1 : Int) = ((1 : Nat) : Int) from rfl, Bt.andi64 (by omega) (by decide), Nat.and_one_is_mod]
  omega
theorem power_l0 : ∀ (n k a r p : Nat), a < 256 → p < 256 → r < 256 → r < 2 ^ n → n + 9 < k → gf8_power.l0 k (a : Int) (r : Int) (p : Int) = some ((Gf.sq n a r p : Nat) : Int) := by
  intro n
  induction n with
  | zero =>
    intro k a r p ha hp _ hr hk
    obtain ⟨k, rfl⟩ : ∃ m, k = m + 1 := ⟨k - 1, by omega⟩
    have : r = 0 := by simpa using hr
    subst this
    simp only [gf8_power.l0]
    rw [if_neg (by decide)]
    rfl
  | succ n ih =>
    intro k a r p ha hp hr8 hr hk
    obtain ⟨k, rfl⟩ : ∃ m, k = m + 1 := ⟨k - 1, by omega⟩
    have hr2 : r / 2 < 2 ^ n := by rw [Nat.pow_succ] at hr; omega
    simp only [gf8_power.l0]
    by_cases h0 : r = 0
    · subst h0
      rw [if_neg (by decide)]
      have : ∀ m a p, Gf.sq m a 0 p = p := by
        intro m
        induction m with
        | zero => intro a p; rfl
        | succ m ih => intro a p; exact ih _ _
      rw [this]
    · rw [if_pos (by omega), half]
      unfold Gf.sq
      by_cases h1 : r % 2 = 0
      · rw [if_pos ((landi r hr8).2 h1), if_neg (show ¬ r % 2 = 1 by omega), mul_f ha ha (by omega)]
        exact ih k _ _ _ (Gf.gm_lt _ ha) hp (by omega) hr2 (by omega)
      · rw [if_neg (fun h => h1 ((landi r hr8).1 h)), if_pos (show r % 2 = 1 by omega), mul_f hp ha (by omega)]
        simp only [Bt.obs]
        rw [mul_f ha ha (by omega)]
        exact ih k _ _ _ (Gf.gm_lt _ ha) (Gf.gm_lt _ hp) (by omega) hr2 (by omega)

theorem power_f {k a r : Nat} (ha : a < 256) (hr : r < 256) (hk : 17 < k) : gf8_power.f k (a : Int) (r : Int) = some ((Gf.pw a r : Nat) : Int) := by
  unfold gf8_power.f
  have := power_l0 8 k a r 1 ha (by decide) hr (by simpa using hr) (by omega)
  rw [Gf.sq_pw ha (by simpa using hr)] at this
  exact this
theorem inv_f {k a : Nat} (ha : a < 256) (hk : 17 < k) : gf8_Inv.f k (a : Int) = some (if a = 0 then (0, 20) else (((Gf.pw a 254 : Nat) : Int), 0)) := by
  unfold gf8_Inv.f
  by_cases h : a = 0
  · rw [if_pos (by omega), if_pos h]
  · rw [if_neg (by omega), if_neg h]
    have := power_f (k := k) (r := 254) ha (by decide) hk
    rw [show ((254 : Nat) : Int) = 254 from rfl] at this
    rw [this]; rfl
theorem awake_f {k : Nat} (hk : 17 < k) : culletlaw02_awake.f k = some true := by
  unfold culletlaw02_awake.f
  have h1 := inv_f (k := k) (a := 2) (by decide) hk
  have h2 := mul_f (k := k) (a := 3) (b := 7) (by decide) (by decide) (by omega)
  have h3 := mul_f (k := k) (a := 2) (b := 128) (by decide) (by decide) (by omega)
  rw [show Gf.gm 3 7 = 9 from by decide +kernel] at h2
  rw [show Gf.gm 2 128 = 29 from by decide +kernel] at h3
  rw [if_neg (by decide), show Gf.pw 2 254 = 142 from by decide +kernel] at h1
  rw [show ((2 : Nat) : Int) = 2 from rfl] at h1
  rw [show ((3 : Nat) : Int) = 3 from rfl, show ((7 : Nat) : Int) = 7 from rfl] at h2
  rw [show ((2 : Nat) : Int) = 2 from rfl, show ((128 : Nat) : Int) = 128 from rfl] at h3
  rw [h1, h2, h3]
  rfl

theorem div_f {k a b : Nat} (ha : a < 256) (hb : b < 256) (hk : 17 < k) : gf8_Div.f k (a : Int) (b : Int) = some (if b = 0 then (0, 20) else (((Gf.gm a (Gf.pw b 254) : Nat) : Int), 0)) := by
  unfold gf8_Div.f
  rw [inv_f hb hk]
  simp only [Bt.obs]
  by_cases h : b = 0
  · rw [if_pos h, if_pos h, if_neg (by decide)]
  · rw [if_neg h, if_neg h, if_pos rfl]
    rw [mul_f ha (Gf.pw_lt hb _) (by omega)]
    rfl

theorem Gf8Inverse : culletlaw02_Gf8Inverse.Pure := by
  intro a b ga gb
  obtain ⟨a, rfl, ha⟩ := Bt.byte_of ga
  obtain ⟨b, rfl, hb⟩ := Bt.byte_of gb
  refine ⟨20, ?_⟩
  unfold culletlaw02_Gf8Inverse.f
  rw [awake_f (by decide)]
  simp only [Bt.obs, if_true]
  rw [inv_f hb (by decide), div_f ha hb (by decide)]
  simp only [Bt.obs]
  by_cases h : b = 0
  · rw [if_pos h, if_pos h, if_pos (by omega), if_pos rfl, if_pos rfl, if_pos rfl]
    rfl
  · rw [if_neg h, if_neg h, if_neg (by omega), if_pos rfl, if_pos rfl]
    have hi := Gf.pw_lt hb 254
    have hq := Gf.gm_lt (Gf.pw b 254) ha
    have hab := Gf.gm_lt b ha
    have hone : Gf.gm b (Gf.pw b 254) = 1 := Gf.inv_gm hb h
    have hone' : Gf.gm (Gf.pw b 254) b = 1 := by rw [Gf.gm_comm hi hb, hone]
    rw [mul_f hb hi (by decide), hone]
    simp only [Bt.obs]
    rw [if_pos (show ((1 : Nat) : Int) = 1 from rfl), mul_f hq hb (by decide), Gf.gm_assoc ha hi hb, hone', Gf.gm_one ha]
    simp only [Bt.obs]
    rw [bne_eq_false_iff_eq.mpr rfl]
    simp only [culletlaw02_Gf8Inverse.j0]
    rw [if_neg (by decide), inv_f hi (by decide), mul_f ha hb (by decide)]
    simp only [Bt.obs]
    rw [div_f hab hb (by decide)]
    simp only [Bt.obs]
    have hi0 : Gf.pw b 254 ≠ 0 := fun e => by rw [e, Gf.gm_zero_right] at hone; exact absurd hone (by decide)
    have hinv : Gf.pw (Gf.pw b 254) 254 = b := by
      have h1 := Gf.inv_gm hi hi0
      have h2 : Gf.gm b (Gf.gm (Gf.pw b 254) (Gf.pw (Gf.pw b 254) 254)) = b := by rw [h1, Gf.gm_one hb]
      rw [← Gf.gm_assoc hb hi (Gf.pw_lt hi _), hone, Gf.one_gm (Gf.pw_lt hi _)] at h2
      exact h2
    rw [if_neg hi0, if_neg h, hinv, Gf.gm_assoc ha hb hi, hone, Gf.gm_one ha]
    simp

end Go.Proofs.Ytcjbiepdggibaaa.Pure
