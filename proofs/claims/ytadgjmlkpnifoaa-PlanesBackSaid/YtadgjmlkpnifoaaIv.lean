/- Layer 1: quotient and remainder, the inverse by Euclid's steps; layer 3: Inv. -/
import Derived.Test.YtadgjmlkpnifoaaCm
namespace Go.Proofs.Ytadgjmlkpnifoaa.Rg
set_option linter.unusedSimpArgs false
set_option linter.unusedVariables false
open Go Go.RowKit Go.Proofs.Ytadgjmlkpnifoaa Go.Proofs.Ytadgjmlkpnifoaa.Mm Go.Proofs.Ytadgjmlkpnifoaa.Gh Go.Proofs.Ytadgjmlkpnifoaa.Cm

theorem bl_log {x : Nat} (h0 : x ≠ 0) (h : x < 2 ^ 64) : Lib.bitLen x = x.log2 + 1 := by
  obtain ⟨h1, h2, _⟩ := Lib.bitLenAux_bounds 64 x h h0
  have e1 := Nat.log2_self_le h0
  have e2 := Nat.lt_log2_self (n := x)
  show Lib.bitLenAux 64 x = _
  have hb : Lib.bitLenAux 64 x ≠ 0 := fun e => by rw [e] at h2; simp at h2; omega
  refine Nat.le_antisymm (Nat.le_of_not_lt fun hlt => ?_) (Nat.le_of_not_lt fun hlt => ?_)
  · have := Nat.pow_le_pow_right (n := 2) (by decide) (show x.log2 + 1 ≤ Lib.bitLenAux 64 x - 1 by omega)
    omega
  · have := Nat.pow_le_pow_right (n := 2) (by decide) (show Lib.bitLenAux 64 x ≤ x.log2 by omega)
    omega
theorem degree_log (x : Nat) (w : World) (h0 : x ≠ 0) (h : x < 131072) : Calls Try.prog 47 #[.int .u64 (x : Int)] w fun e w' => e = .returned (.int .i64 ((x.log2 : Nat) : Int)) ∧ w = w' := by
  have := degree_calls (x : Int) w (by omega) (by omega)
  rw [Int.toNat_natCast, bl_log h0 (by show _ < 18446744073709551616; omega)] at this
  rw [show (((x.log2 + 1 : Nat) : Int) - 1) = ((x.log2 : Nat) : Int) from by omega] at this
  exact this
theorem degree_zero (w : World) : Calls Try.prog 47 #[.int .u64 0] w fun e w' => e = .returned (.int .i64 (-1)) ∧ w = w' := degree_calls 0 w (by decide) (by decide)

theorem or_xor {q s : Nat} (h : q % 2 ^ (s + 1) = 0) : q ||| 2 ^ s = q ^^^ 2 ^ s := by
  apply Nat.eq_of_testBit_eq
  intro j
  rw [Nat.testBit_or, Nat.testBit_xor, Nat.testBit_two_pow]
  by_cases hj : s = j
  · subst hj
    have h1 := Nat.testBit_mod_two_pow q (s + 1) s
    rw [h, Nat.zero_testBit] at h1
    have h2 : q.testBit s = false := by simpa using h1.symm
    simp [h2]
  · simp [hj]
theorem top_xor {x y i : Nat} (h1 : 2 ^ i ≤ x) (h2 : x < 2 ^ (i + 1)) (h3 : 2 ^ i ≤ y) (h4 : y < 2 ^ (i + 1)) : x ^^^ y < 2 ^ i := by
  have e : 2 ^ (i + 1) = 2 * 2 ^ i := by rw [Nat.pow_succ]; omega
  obtain ⟨x', rfl⟩ : ∃ x', x = 2 ^ i + x' := ⟨x - 2 ^ i, by omega⟩
  obtain ⟨y', rfl⟩ : ∃ y', y = 2 ^ i + y' := ⟨y - 2 ^ i, by omega⟩
  rw [← pow_xor (k := i) (i := x') (by omega), ← pow_xor (k := i) (i := y') (by omega), Rh.swap4, Nat.xor_self, Nat.zero_xor]
  exact Nat.xor_lt_two_pow (by omega) (by omega)

/-- What divMod answers. -/
def DivR (a b : Nat) (w : World) (e : Ending) (w' : World) : Prop := ∃ q r : Nat, e = .returned (.tuple #[.int .u64 (q : Int), .int .u64 (r : Int)]) ∧ w = w' ∧ a = cm q b ^^^ r ∧ r < 2 ^ b.log2 ∧ q < 131072

set_option maxRecDepth 100000 in
set_option maxHeartbeats 2000000 in
theorem divMod_calls (a b : Nat) (w : World) (ha : a < 131072) (hb : b < 131072) (hb0 : b ≠ 0) : Calls Try.prog 43 #[.int .u64 (a : Int), .int .u64 (b : Int)] w (DivR a b w) := by
  have f1 := Nat.log2_self_le hb0
  have f2 := Nat.lt_log2_self (n := b)
  have hj : b.log2 ≤ 16 := by
    refine Nat.le_of_not_lt fun hlt => ?_
    have : 2 ^ 17 ≤ 2 ^ b.log2 := Nat.pow_le_pow_right (by decide) (by omega)
    omega
  have HD : Hid (∀ W : World, Calls Try.prog 47 #[.int .u64 (b : Int)] W fun e w' => e = .returned (.int .i64 ((b.log2 : Nat) : Int)) ∧ W = w') := Lib.hid (fun W => degree_log b W hb0 hb)
  unfold DivR
  obtain ⟨j, HJ⟩ : ∃ j, Hid (b.log2 = j) := ⟨_, Lib.hid rfl⟩
  rw [HJ.out] at f1 f2 hj HD ⊢
  have F1 := Lib.hid f1; have F2 := Lib.hid f2
  clear f1 f2
  go_enter Try.func43, Try.ntmps43
  go_wp2_with fail
  refine (HD.out _).mono ?_
  rintro e _ ⟨rfl, rfl⟩
  go_wp2_with fail
  go_loopw [0, 4] (fun v0 v4 wr => ∃ x q m : Nat, v0 = .int .u64 (x : Int) ∧ v4 = .int .u64 (q : Int) ∧ wr = w ∧ m ≤ 17 ∧ x < 2 ^ m ∧ q % 2 ^ (m - j) = 0 ∧ q < 131072 ∧ a = cm q b ^^^ x) (fun v0 _ _ => (intOf v0).toNat)
  case atStart => exact ⟨a, 0, 17, rfl, rfl, rfl, Nat.le_refl _, ha, Nat.zero_mod _, by decide, by rw [cm_zero, Nat.zero_xor]⟩
  case round =>
    obtain ⟨x, q, m, rfl, rfl, rfl, hm, hx, hqm, hq, he⟩ := hrel
    have HE := Lib.hid he; have HX := Lib.hid hx; have HQM := Lib.hid hqm
    have hx17 : x < 131072 := Nat.lt_of_lt_of_le hx (Nat.pow_le_pow_right (n := 2) (i := m) (j := 17) (by decide) hm)
    clear he hx hqm
    by_cases hx0 : x = 0
    · subst hx0
      have g1 : (-1 : Int) - (j : Int) < 0 := by omega
      have g2 : IntKind.i64.wrap ((-1 : Int) - (j : Int)) = (-1 : Int) - (j : Int) := IntWalk.i64_in _ (by omega)
      go_wp2_with fail
      refine (degree_zero _).mono ?_
      rintro e _ ⟨rfl, rfl⟩
      go_wp2_with fail
      go_ret2
      refine ⟨q, 0, rfl, rfl, HE.out, Nat.two_pow_pos _, hq⟩
    · have e1 := Lib.hid (Nat.log2_self_le hx0)
      have e2 := Lib.hid (Nat.lt_log2_self (n := x))
      have HDx : Hid (∀ W : World, Calls Try.prog 47 #[.int .u64 (x : Int)] W fun e w' => e = .returned (.int .i64 ((x.log2 : Nat) : Int)) ∧ W = w') := Lib.hid (fun W => degree_log x W hx0 hx17)
      obtain ⟨i, HI⟩ : ∃ i, Hid (x.log2 = i) := ⟨_, Lib.hid rfl⟩
      rw [HI.out] at e1 e2 HDx
      have him : i < m := by
        refine Nat.lt_of_not_le fun hle => ?_
        have h1 : 2 ^ m ≤ 2 ^ i := Nat.pow_le_pow_right (by decide) hle
        have h2 := e1.out; have h3 := HX.out
        omega
      by_cases hij : i < j
      · have g1 : (i : Int) - (j : Int) < 0 := by omega
        have g2 : IntKind.i64.wrap ((i : Int) - (j : Int)) = (i : Int) - (j : Int) := IntWalk.i64_in _ (by omega)
        go_wp2_with fail
        refine (HDx.out _).mono ?_
        rintro e _ ⟨rfl, rfl⟩
        go_wp2_with fail
        go_ret2
        refine ⟨q, x, rfl, rfl, HE.out, ?_, hq⟩
        have h1 : 2 ^ (i + 1) ≤ 2 ^ j := Nat.pow_le_pow_right (by decide) hij
        have h2 := e2.out
        omega
      · obtain ⟨s, hs⟩ : ∃ s, i = j + s := ⟨i - j, by omega⟩
        have g0 : (i : Int) - (j : Int) = (s : Int) := by omega
        have hs16 : s ≤ 16 := by omega
        have hT : 2 ^ s ≤ 65536 := Nat.pow_le_pow_right (n := 2) (i := s) (j := 16) (by decide) hs16
        have HOR : Hid (q ||| 2 ^ s = q ^^^ 2 ^ s) := Lib.hid (or_xor (by
          have h1 := HQM.out
          have h2 : 2 ^ (s + 1) ∣ 2 ^ (m - j) := Nat.pow_dvd_pow 2 (by omega)
          exact Nat.mod_eq_zero_of_dvd (Nat.dvd_trans h2 (Nat.dvd_of_mod_eq_zero h1))))
        have HQ' : Hid ((q ^^^ 2 ^ s) % 2 ^ (i - j) = 0) := Lib.hid (by
          have h1 := HQM.out
          have h2 : 2 ^ s ∣ 2 ^ (m - j) := Nat.pow_dvd_pow 2 (by omega)
          have h3 : q % 2 ^ s = 0 := Nat.mod_eq_zero_of_dvd (Nat.dvd_trans h2 (Nat.dvd_of_mod_eq_zero h1))
          rw [show i - j = s by omega]
          apply Nat.eq_of_testBit_eq
          intro k
          rw [Nat.testBit_mod_two_pow, Nat.zero_testBit, Nat.testBit_xor, Nat.testBit_two_pow]
          by_cases hk : k < s
          · have h4 := Nat.testBit_mod_two_pow q s k
            rw [h3, Nat.zero_testBit] at h4
            have h5 : q.testBit k = false := by simpa [hk] using h4.symm
            simp [h5, show ¬ s = k by omega]
          · simp [hk])
        have HC : Hid (cm (q ^^^ 2 ^ s) b = cm q b ^^^ b * 2 ^ s) := Lib.hid (by rw [cm_l, cm_pow])
        have hz1 : 2 ^ i ≤ b * 2 ^ s := by rw [hs, Nat.pow_add]; exact Nat.mul_le_mul_right _ F1.out
        have hz2 : b * 2 ^ s < 2 ^ (i + 1) := by rw [show i + 1 = (j + 1) + s by omega, Nat.pow_add]; exact Nat.mul_lt_mul_of_pos_right F2.out (Nat.two_pow_pos _)
        have HXX : Hid (x ^^^ b * 2 ^ s < 2 ^ i) := Lib.hid (top_xor e1.out e2.out hz1 hz2)
        have hz3 : b * 2 ^ s < 131072 := Nat.lt_of_lt_of_le hz2 (Nat.pow_le_pow_right (n := 2) (i := i + 1) (j := 17) (by decide) (by omega))
        have HLE : Hid (2 ^ i ≤ x) := e1
        have hbT : (b : Int) * 2 ^ s = ((b * 2 ^ s : Nat) : Int) := by simp
        have h1T : (2 : Int) ^ s = ((2 ^ s : Nat) : Int) := by simp
        obtain ⟨T, HT⟩ : ∃ T, Hid (2 ^ s = T) := ⟨_, Lib.hid rfl⟩
        rw [HT.out] at hT HOR HQ' HC HXX hz3 hbT h1T
        obtain ⟨Z, HZ⟩ : ∃ Z, Hid (b * T = Z) := ⟨_, Lib.hid rfl⟩
        rw [HZ.out] at HC HXX hz3 hbT
        clear hz1 hz2
        have f1 : IntKind.u64.wrap ((b : Int) * 2 ^ s) = (Z : Int) := by rw [hbT]; exact Bt.wrap_u64 _ (by omega) (by omega)
        have f2 : IntKind.u64.wrap ((2 : Int) ^ s) = (T : Int) := by rw [h1T]; exact Bt.wrap_u64 _ (by omega) (by omega)
        have f3 : Go.bits .or .u64 (q : Int) (T : Int) = ((q ||| T : Nat) : Int) := Bt.or64 (by omega) (by omega)
        have f4 : Go.bits .xor .u64 (x : Int) (Z : Int) = ((x ^^^ Z : Nat) : Int) := Bt.xor64 (by omega) (by omega)
        have g2 : IntKind.i64.wrap ((i : Int) - (j : Int)) = (s : Int) := by rw [g0]; exact IntWalk.i64_in _ (by omega)
        have s0 : (0 : Int) ≤ (s : Int) := by omega
        have HQQ : Hid (q ^^^ T < 131072) := Lib.hid (Nat.xor_lt_two_pow (n := 17) hq (by show T < 131072; omega))
        clear hbT h1T
        go_wp2_with fail
        refine (HDx.out _).mono ?_
        rintro e _ ⟨rfl, rfl⟩
        go_wp2_with fail
        refine ⟨⟨x ^^^ Z, q ||| T, i, rfl, rfl, trivial, by omega, HXX.out, by rw [HOR.out]; exact HQ'.out, by rw [HOR.out]; exact HQQ.out, ?_⟩, ?_⟩
        · rw [HOR.out, HC.out, Nat.xor_comm x Z, Nat.xor_assoc, ← Nat.xor_assoc Z Z, Nat.xor_self, Nat.zero_xor]
          exact HE.out
        · have h1 := HXX.out
          have h2 := HLE.out
          simp only [intOf, Int.toNat_natCast]
          omega

set_option maxRecDepth 100000 in
set_option maxHeartbeats 1000000 in
theorem mulMod_gen (a0 a b : Nat) (w : World) (hA : ∀ W : World, Calls Try.prog 43 #[.int .u64 (a0 : Int), .int .u64 65581] W fun e w' => (∃ k : Nat, e = .returned (.tuple #[.int .u64 (k : Int), .int .u64 (a : Int)])) ∧ W = w') (ha : a < 65536) (hb : b < 65536) : Calls Try.prog 42 #[.int .u64 (a0 : Int), .int .u64 (b : Int), .int .u64 65581] w fun e w' => e = .returned (.int .u64 ((gm a b : Nat) : Int)) ∧ w = w' := by
  have HA := Lib.hid hA
  clear hA
  have HZ : Hid (gm a (b / 2 ^ 16) = 0) := Lib.hid (by rw [Nat.div_eq_of_lt hb, gm_zero_right])
  go_enter Try.func42, Try.ntmps42
  go_wp2_with fail
  refine (HA.out _).mono ?_
  rintro e _ ⟨⟨k, rfl⟩, rfl⟩
  go_wp2_with fail
  refine (div_low _ _ (by omega) (by omega)).mono ?_
  rintro e _ ⟨rfl, rfl⟩
  go_wp2_with fail
  refine (degree_p _).mono ?_
  rintro e _ ⟨rfl, rfl⟩
  go_wp2_with fail
  go_loopw [8, 9] (fun vr vi wr => ∃ i : Nat, i ≤ 16 ∧ vi = .int .i64 ((i : Int) - 1) ∧ vr = .int .u64 ((gm a (b / 2 ^ i) : Nat) : Int) ∧ wr = w) (fun _ vi _ => (intOf vi + 1).toNat)
  case atStart => exact ⟨16, by omega, rfl, by rw [HZ.out]; rfl, rfl⟩
  case round =>
    clear HZ
    obtain ⟨i, hi, rfl, rfl, rfl⟩ := hrel
    cases i with
    | zero =>
      go_wp2_with fail
      go_ret
      exact ⟨by simp, rfl⟩
    | succ i =>
      have HT' := gm_top (i := i) ha hb
      obtain ⟨T, HTT⟩ : ∃ T, Hid (T = gm_top (i := i) ha hb) := ⟨_, Lib.hid rfl⟩
      have HT := Lib.hid HT'; clear HT' HTT T
      have hr := gm_lt (b / 2 ^ (i + 1)) ha
      generalize gm a (b / 2 ^ (i + 1)) = r at *
      have i0 : (0 : Int) ≤ (i : Int) := by omega
      have hbi : b / 2 ^ i < 65536 := Nat.lt_of_le_of_lt (Nat.div_le_self _ _) hb
      have b1 : Go.bits .and .u64 ((b / 2 ^ i : Nat) : Int) 1 = ((b / 2 ^ i % 2 : Nat) : Int) := by
        have := Bt.and64 (a := b / 2 ^ i) (b := 1) (by omega) (by decide)
        rw [Nat.and_one_is_mod] at this; exact this
      have b2 : ((b : Nat) : Int) / 2 ^ i = ((b / 2 ^ i : Nat) : Int) := by simp
      have hm : b / 2 ^ i % 2 = 0 ∨ b / 2 ^ i % 2 = 1 := by omega
      obtain ⟨q, HQ⟩ : ∃ q, Hid (b / 2 ^ i = q) := ⟨_, Lib.hid rfl⟩
      rw [HQ.out] at hbi b1 b2 hm HT
      have c2 : Go.bits .and .u64 0 1 = 0 := by decide
      have c3 : Go.bits .and .u64 1 1 = 1 := by decide
      by_cases hr2 : r < 32768
      · have HX : Hid (xt r = r * 2) := Lib.hid (by unfold xt; rw [if_pos hr2]; omega)
        have c1 : ((r : Int) * 2) / 65536 = 0 := by omega
        rcases hm with hm | hm
        · have b3 : Go.bits .and .u64 (q : Int) 1 = 0 := by rw [b1, hm]; rfl
          have HM := Lib.hid hm
          rw [HX.out, HM.out, if_neg (by decide), Nat.xor_zero] at HT
          clear b1 hm
          go_wp2_with fail
          refine ⟨⟨i, by omega, rfl, by rw [HQ.out, HT.out]; simp, trivial⟩, ?_⟩
          simp [intOf]
          try omega
        · have b3 : Go.bits .and .u64 (q : Int) 1 = 1 := by rw [b1, hm]; rfl
          have HM := Lib.hid hm
          rw [HX.out, HM.out, if_pos rfl] at HT
          clear b1 hm
          go_wp2_with fail
          refine ⟨⟨i, by omega, rfl, by rw [HQ.out, HT.out, ← Bt.xor64 (a := r * 2) (b := a) (by omega) (by omega)]; simp, trivial⟩, ?_⟩
          simp [intOf]
          try omega
      · have HX : Hid (xt r = (r * 2) ^^^ 65581) := Lib.hid (by unfold xt; rw [if_neg hr2, Nat.mul_comm])
        have c1 : ((r : Int) * 2) / 65536 = 1 := by omega
        have hxl := xt_lt hr
        have c4 : Go.bits .xor .u64 ((r : Int) * 2) 65581 = ((xt r : Nat) : Int) := by
          have := Bt.xor64 (a := r * 2) (b := 65581) (by omega) (by decide)
          rw [← HX.out] at this
          simpa using this
        generalize xt r = x at *
        rcases hm with hm | hm
        · have b3 : Go.bits .and .u64 (q : Int) 1 = 0 := by rw [b1, hm]; rfl
          have HM := Lib.hid hm
          rw [HM.out, if_neg (by decide), Nat.xor_zero] at HT
          clear b1 hm
          go_wp2_with fail
          refine ⟨⟨i, by omega, rfl, by rw [HQ.out, HT.out], trivial⟩, ?_⟩
          simp [intOf]
          try omega
        · have b3 : Go.bits .and .u64 (q : Int) 1 = 1 := by rw [b1, hm]; rfl
          have HM := Lib.hid hm
          rw [HM.out, if_pos rfl] at HT
          clear b1 hm
          go_wp2_with fail
          refine ⟨⟨i, by omega, rfl, by rw [HQ.out, HT.out, ← Bt.xor64 (a := x) (b := a) (by omega) (by omega)], trivial⟩, ?_⟩
          simp [intOf]
          try omega

theorem cm_q1 : ∀ n q, q ≤ n → cm q 1 = q
  | 0, q, h => by
    obtain rfl : q = 0 := by omega
    exact cm_zero 1
  | n + 1, q, h => by
    by_cases h0 : q = 0
    · subst h0; exact cm_zero 1
    · rw [cm_step, cm_q1 n (q / 2) (by omega)]
      rcases Nat.mod_two_eq_zero_or_one q with h2 | h2
      · rw [h2, if_neg (by decide), Nat.xor_zero]; omega
      · rw [h2, if_pos rfl]
        have h3 := pow_xor (k := 0) (i := 0) (by decide)
        have h4 : 2 * (q / 2) ^^^ 1 = 2 * (q / 2) + 1 := by
          have h1 := Nat.two_pow_add_eq_or_of_lt (b := 1) (i := 1) (by decide) (q / 2)
          rw [Nat.pow_one] at h1
          rw [h1]
          apply Nat.eq_of_testBit_eq
          intro j
          rw [Nat.testBit_xor, Nat.testBit_or]
          cases j with
          | zero => simp
          | succ j => simp [Nat.testBit_succ]
        rw [h4]; omega
/-- What a product leaves, with less than its lower degree added. -/
theorem deg_ge {q y r : Nat} (hq : q ≠ 0) (hy : y ≠ 0) (hr : r < 2 ^ y.log2) : 2 ^ (q.log2 + y.log2) ≤ cm q y ^^^ r := by
  have hd := (cm_deg (Nat.log2_self_le hy) (Nat.lt_log2_self (n := y)) q.log2 q (Nat.log2_self_le hq) (Nat.lt_log2_self (n := q))).1
  refine Nat.le_of_not_lt fun hlt => ?_
  have h1 : 2 ^ y.log2 ≤ 2 ^ (q.log2 + y.log2) := Nat.pow_le_pow_right (by decide) (by omega)
  have := Nat.xor_lt_two_pow hlt (Nat.lt_of_lt_of_le hr h1)
  rw [Nat.xor_assoc, Nat.xor_self, Nat.xor_zero] at this
  omega
theorem log_ge {q i : Nat} (h0 : q ≠ 0) (h : 2 ^ i ≤ q) : i ≤ q.log2 := by
  refine Nat.le_of_not_lt fun hlt => ?_
  have h1 := Nat.lt_log2_self (n := q)
  have : 2 ^ (q.log2 + 1) ≤ 2 ^ i := Nat.pow_le_pow_right (by decide) (by omega)
  omega
theorem red_lt {q : Nat} (h : q < 131072) : red q < 65536 := by
  unfold red
  split
  · assumption
  · exact top_xor (i := 16) (by show 65536 ≤ q; omega) h (by decide) (by decide)
theorem div_red (q : Nat) (w : World) (hq : q < 131072) : Calls Try.prog 43 #[.int .u64 (q : Int), .int .u64 65581] w fun e w' => (∃ k : Nat, e = .returned (.tuple #[.int .u64 (k : Int), .int .u64 ((red q : Nat) : Int)])) ∧ w = w' := by
  refine (divMod_calls q 65581 w hq (by decide) (by decide)).mono fun e w' ⟨k, r, he, hw, hx, hr, _⟩ => ?_
  have hr' : r < 65536 := by
    have : Nat.log2 65581 = 16 := by decide +kernel
    rw [this] at hr; exact hr
  refine ⟨⟨k, ?_⟩, hw⟩
  have : r = red q := by
    by_cases hk : k = 0
    · subst hk; rw [cm_zero, Nat.zero_xor] at hx; subst hx; rw [red_low hr']
    · have hge := deg_ge (y := 65581) (r := r) hk (by decide) hr
      rw [← hx, show Nat.log2 65581 = 16 by decide +kernel] at hge
      have hk1 : k = 1 := by
        refine Classical.byContradiction fun hne => ?_
        have h1 := log_ge (i := 1) hk (by simp; omega)
        have : 2 ^ 17 ≤ 2 ^ (k.log2 + 16) := Nat.pow_le_pow_right (by decide) (by omega)
        omega
      subst hk1
      have h6 : 65536 ≤ q := by
        have : 2 ^ 16 ≤ 2 ^ (Nat.log2 1 + 16) := Nat.pow_le_pow_right (by decide) (by omega)
        omega
      rw [cm_one] at hx
      unfold red
      rw [if_neg (by omega), hx, Nat.xor_comm 65581 r, Nat.xor_assoc, Nat.xor_self, Nat.xor_zero]
  rw [he, this]
theorem mulMod_red (q t : Nat) (w : World) (hq : q < 131072) (ht : t < 65536) : Calls Try.prog 42 #[.int .u64 (q : Int), .int .u64 (t : Int), .int .u64 65581] w fun e w' => e = .returned (.int .u64 ((gm (red q) t : Nat) : Int)) ∧ w = w' :=
  mulMod_gen q (red q) t w (fun W => div_red q W hq) (red_lt hq) ht
theorem red_cm' {q y : Nat} (hy : y < 65536) (hy0 : y ≠ 0) (hq : q < 131072) (hc : cm q y < 131072) : red (cm q y) = gm (red q) y := by
  by_cases h : q < 65536
  · rw [red_low h]; exact red_cm hy q q (Nat.le_refl _) h hc
  · have hge := deg_ge (q := q) (y := y) (r := 0) (by omega) hy0 (Nat.two_pow_pos _)
    rw [Nat.xor_zero] at hge
    have h1 := log_ge (q := q) (i := 16) (by omega) (by show 65536 ≤ q; omega)
    have hy1 : y = 1 := by
      refine Classical.byContradiction fun hne => ?_
      have h2 := log_ge (q := y) (i := 1) hy0 (by simp; omega)
      have : 2 ^ 17 ≤ 2 ^ (q.log2 + y.log2) := Nat.pow_le_pow_right (by decide) (by omega)
      omega
    subst hy1
    rw [cm_q1 q q (Nat.le_refl _), gm_one (red_lt hq)]
theorem bezout' {a s t x y q r : Nat} (ha : a < 65536) (hs : s < 65536) (ht : t < 65536) (hx : red x = gm s a) (hy : y = gm t a) (hy0 : y ≠ 0) (hq : q < 131072) (hy2 : y < 65536) (hxl : x < 131072) (hr : r < 65536) (he : x = cm q y ^^^ r) : r = gm (s ^^^ gm (red q) t) a := by
  have hc : cm q y < 131072 := by
    have := Nat.xor_lt_two_pow (n := 17) (x := x) (y := r) hxl (by show r < 131072; omega)
    rw [he, Nat.xor_assoc, Nat.xor_self, Nat.xor_zero] at this
    exact this
  have h1 : red x = gm (red q) y ^^^ r := by rw [he, red_xor hc hr, red_cm' hy2 hy0 hq hc]
  rw [gm_left _ hs (gm_lt _ (red_lt hq)), gm_assoc (red_lt hq) ht ha, ← hy, ← hx, h1, Nat.xor_assoc, Nat.xor_comm r, ← Nat.xor_assoc, Nat.xor_self, Nat.zero_xor]

set_option maxRecDepth 100000 in
set_option maxHeartbeats 2000000 in
theorem invMod_calls (a : Nat) (w : World) (ha : a < 65536) (h0 : a ≠ 0) : Calls Try.prog 38 #[.int .u64 (a : Int), .int .u64 65581] w fun e w' => ∃ s : Nat, e = .returned (.tuple #[.int .u64 (s : Int), .int .i64 0]) ∧ w = w' ∧ s < 65536 ∧ gm s a = 1 := by
  go_enter Try.func38, Try.ntmps38
  go_wp2_with fail
  refine (isMod_p _).mono ?_
  rintro e _ ⟨rfl, rfl⟩
  go_wp2_with fail
  refine (div_low _ _ (by omega) (by omega)).mono ?_
  rintro e _ ⟨rfl, rfl⟩
  go_wp2_with fail
  go_loopw [7, 8, 9, 10] (fun vy vx vs vt wr => ∃ x y s t u v : Nat, vx = .int .u64 (x : Int) ∧ vy = .int .u64 (y : Int) ∧ vs = .int .u64 (s : Int) ∧ vt = .int .u64 (t : Int) ∧ wr = w ∧ x < 131072 ∧ y < 65536 ∧ s < 65536 ∧ t < 65536 ∧ red x = gm s a ∧ y = gm t a ∧ 65581 = cm u x ^^^ cm v y ∧ (y = 0 → x < 65536)) (fun vy _ _ _ _ => (intOf vy).toNat)
  case atStart => exact ⟨65581, a, 0, 1, 1, 0, rfl, rfl, rfl, rfl, rfl, by decide, ha, by decide, by decide, by rw [gm_zero_left]; decide, (one_gm ha).symm, by rw [cm_one, cm_zero, Nat.xor_zero], fun h => absurd h h0⟩
  case round =>
    obtain ⟨x, y, s, t, u, v, rfl, rfl, rfl, rfl, rfl, hx, hy, hs, ht, hrx, hry, hp, hxy⟩ := hrel
    have HRX := Lib.hid hrx; have HRY := Lib.hid hry; have HP := Lib.hid hp; have HXY := Lib.hid hxy
    clear hrx hry hp hxy
    by_cases hy0 : y = 0
    · subst hy0
      have hx1 : x = 1 := by
        have := HP.out
        rw [cm_nil, Nat.xor_zero] at this
        exact gcd_one this (HXY.out rfl)
      subst hx1
      have HS : Hid (gm s a = 1) := Lib.hid (by rw [← HRX.out]; exact red_low (by decide))
      go_wp2_with fail
      refine (div_low _ _ (by omega) (by omega)).mono ?_
      rintro e _ ⟨rfl, rfl⟩
      go_wp2_with fail
      go_ret2
      exact ⟨s, rfl, rfl, hs, HS.out⟩
    · have g1 : ((y : Int) != 0) = true := by rw [bne_iff_ne]; omega
      go_wp2_with fail
      refine (divMod_calls x y _ hx (by omega) hy0).mono ?_
      rintro e _ ⟨q, r, rfl, rfl, hxe, hr, hq⟩
      have HXE := Lib.hid hxe
      have hry1 : r < y := Nat.lt_of_lt_of_le hr (Nat.log2_self_le hy0)
      clear hxe hr
      go_wp2_with fail
      refine (mulMod_red q t _ hq ht).mono ?_
      rintro e _ ⟨rfl, rfl⟩
      have hg : gm (red q) t < 65536 := gm_lt _ (red_lt hq)
      have HB : Hid (r = gm (s ^^^ gm (red q) t) a) := Lib.hid (bezout' ha hs ht HRX.out HRY.out hy0 hq hy hx (by omega) HXE.out)
      have HEU : Hid (65581 = cm (cm u q ^^^ v) y ^^^ cm u r) := Lib.hid (euclid HP.out HXE.out)
      have HYA : Hid (red y = gm t a) := Lib.hid (by rw [red_low hy]; exact HRY.out)
      obtain ⟨G, HG⟩ : ∃ G, Hid (gm (red q) t = G) := ⟨_, Lib.hid rfl⟩
      rw [HG.out] at hg HB ⊢
      have hsg : s ^^^ G < 65536 := xor_lt hs hg
      have f1 : Go.bits .xor .u64 (s : Int) (G : Int) = ((s ^^^ G : Nat) : Int) := Bt.xor64 (by omega) (by omega)
      go_wp2_with fail
      refine ⟨⟨y, r, t, s ^^^ G, cm u q ^^^ v, u, rfl, rfl, rfl, rfl, trivial, by omega, by omega, ht, hsg, HYA.out, HB.out, HEU.out, fun _ => hy⟩, ?_⟩
      simp only [intOf, Int.toNat_natCast]
      omega

/-- What undoes a. -/
theorem inv16_calls (a : Nat) (w : World) (ha : a < 65536) (h0 : a ≠ 0) : Calls Try.prog 22 #[.int .u16 (a : Int)] w fun e w' => ∃ s : Nat, e = .returned (.tuple #[.int .u16 (s : Int), .int .i64 0]) ∧ w = w' ∧ s < 65536 ∧ gm s a = 1 := by
  have g1 : ((a : Int) == 0) = false := by rw [beq_eq_false_iff_ne]; omega
  go_enter Try.func22, Try.ntmps22
  go_wp2_with fail
  refine (invMod_calls a _ ha h0).mono ?_
  rintro e _ ⟨s, rfl, rfl, hs, hg⟩
  have HG := Lib.hid hg
  have f1 : IntKind.u16.wrap (s : Int) = (s : Int) := Bt.wrap_u16 _ (by omega) (by omega)
  clear hg
  go_wp2_with fail
  go_ret2
  refine ⟨s, ?_, rfl, hs, HG.out⟩
  first | rfl | (rw [f1])
theorem inv16_zero (w : World) : Calls Try.prog 22 #[.int .u16 0] w fun e w' => e = .returned (.tuple #[.int .u16 0, .int .i64 20]) ∧ w = w' := by
  go_enter Try.func22, Try.ntmps22
  go_wp2_with fail
  go_ret2
  exact ⟨rfl, rfl⟩

end Go.Proofs.Ytadgjmlkpnifoaa.Rg
