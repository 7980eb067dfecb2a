-- PRINTED BY print.sh 35421559b90ae4d0a3588c463048766b98c2df88dd9212a6774a882060cdf62d: not written by this session
import Derived.Test.YtcjbiepdggibaaaPGf8Sumsx0
import Derived.Test.YtcjbiepdggibaaaPGf8Sumsx1
namespace Go.Proofs.Ytcjbiepdggibaaa.PGf8Sums
open Go.RowKit Go.Proofs.YtcjbiepdggibaaaW.PrintWords Go.Proofs.YtcjbiepdggibaaaW.PrintLast Go.Proofs.YtcjbiepdggibaaaW.PrintMore
attribute [local go_sem] max2_int min2_int max_two min_two max_three min_three max_four min_four   -- for this text's walks alone
set_option linter.unusedVariables false
set_option linter.unusedSimpArgs false

/-! ### culletlaw02_Gf8Sums: function 6 -/
mutual
def culletlaw02_Gf8Sums.j0 : Nat → Int → Int → Bool → Option (Bool)
  | 0, _, _, _ => none
  | k + 1, x0, x2, x54 => if x54 = true then (some false) else ((gf8_Pow.f k 0 x2).bind fun bt118 => (if x2 > 0 then (if bt118.1 = 0 then (if bt118.2 = 0 then (if x2 = 0 then (if bt118.1 = 1 then (if x2 < 0 then (culletlaw02_Gf8Sums.j1 k x0 x2 (bt118.2 != 20)) else (culletlaw02_Gf8Sums.j1 k x0 x2 false)) else (culletlaw02_Gf8Sums.j1 k x0 x2 true)) else (if x2 < 0 then (culletlaw02_Gf8Sums.j1 k x0 x2 (bt118.2 != 20)) else (culletlaw02_Gf8Sums.j1 k x0 x2 false))) else (culletlaw02_Gf8Sums.j1 k x0 x2 true)) else (culletlaw02_Gf8Sums.j1 k x0 x2 true)) else (if x2 = 0 then (if bt118.1 = 1 then (if bt118.2 = 0 then (if x2 < 0 then (if bt118.1 = 0 then (culletlaw02_Gf8Sums.j1 k x0 x2 (bt118.2 != 20)) else (culletlaw02_Gf8Sums.j1 k x0 x2 true)) else (culletlaw02_Gf8Sums.j1 k x0 x2 false)) else (culletlaw02_Gf8Sums.j1 k x0 x2 true)) else (culletlaw02_Gf8Sums.j1 k x0 x2 true)) else (if x2 < 0 then (if bt118.1 = 0 then (culletlaw02_Gf8Sums.j1 k x0 x2 (bt118.2 != 20)) else (culletlaw02_Gf8Sums.j1 k x0 x2 true)) else (culletlaw02_Gf8Sums.j1 k x0 x2 false)))))
def culletlaw02_Gf8Sums.j1 : Nat → Int → Int → Bool → Option (Bool)
  | 0, _, _, _ => none
  | k + 1, x0, x2, x93 => if x93 = true then (some false) else (if x0 = 0 then (culletlaw02_Gf8Sums.j2 k x0 x2 true) else (if x2 = 9223372036854775807 then (culletlaw02_Gf8Sums.j2 k x0 x2 true) else (culletlaw02_Gf8Sums.j2 k x0 x2 (x2 == (-9223372036854775808)))))
def culletlaw02_Gf8Sums.j2 : Nat → Int → Int → Bool → Option (Bool)
  | 0, _, _, _ => none
  | k + 1, x0, x2, x103 => if x103 = true then (some true) else ((gf8_Pow.f k x0 x2).bind fun bt120 => ((gf8_Pow.f k x0 (wrap64 (x2 + 1))).bind fun bt122 => ((gf8_Pow.f k x0 (wrap64 (-x2))).bind fun bt124 => ((gf8_Pow.f k x0 255).bind fun bt126 => (if bt120.2 = 0 then (if bt122.2 = 0 then (if bt124.2 = 0 then (if bt126.2 = 0 then ((gf8_Mul.f k bt120.1 x0).bind fun t128 => (if bt122.1 = t128 then ((gf8_Mul.f k bt120.1 bt124.1).bind fun t129 => (if t129 = 1 then (some (bt126.1 == 1)) else (some false))) else (some false))) else (some false)) else (some false)) else (some false)) else (some false))))))
end
def culletlaw02_Gf8Sums.f (k : Nat) (a0 : Int) (a1 : Int) (a2 : Int) : Option (Bool) := (culletlaw02_awake.f k).bind fun t111 => (if t111 = true then ((gf8_Pow.f k (Go.bits .xor .u8 a0 a1) 2).bind fun bt112 => ((gf8_Pow.f k a0 2).bind fun bt114 => ((gf8_Pow.f k a1 2).bind fun bt116 => (if bt112.2 = 0 then (if bt114.2 = 0 then (if bt116.2 = 0 then (culletlaw02_Gf8Sums.j0 k a0 a2 (bt112.1 != (Go.bits .xor .u8 bt114.1 bt116.1))) else (culletlaw02_Gf8Sums.j0 k a0 a2 true)) else (culletlaw02_Gf8Sums.j0 k a0 a2 true)) else (culletlaw02_Gf8Sums.j0 k a0 a2 true))))) else (some false))
theorem culletlaw02_Gf8Sums.mono_l : ∀ k, (∀ y0 y1 y2, LeO (culletlaw02_Gf8Sums.j0 k y0 y1 y2) (culletlaw02_Gf8Sums.j0 (k + 1) y0 y1 y2)) ∧ (∀ y0 y1 y2, LeO (culletlaw02_Gf8Sums.j1 k y0 y1 y2) (culletlaw02_Gf8Sums.j1 (k + 1) y0 y1 y2)) ∧ (∀ y0 y1 y2, LeO (culletlaw02_Gf8Sums.j2 k y0 y1 y2) (culletlaw02_Gf8Sums.j2 (k + 1) y0 y1 y2))
  | 0 => ⟨fun _ _ _ r h => by simp [culletlaw02_Gf8Sums.j0] at h, fun _ _ _ r h => by simp [culletlaw02_Gf8Sums.j1] at h, fun _ _ _ r h => by simp [culletlaw02_Gf8Sums.j2] at h⟩
  | k + 1 => by
    obtain ⟨ih0, ih1, ih2⟩ := culletlaw02_Gf8Sums.mono_l k
    refine ⟨?_, ?_, ?_⟩
    · intro y0 y1 y2
      unfold culletlaw02_Gf8Sums.j0
      repeat' first
      | (with_reducible exact ih0 _ _ _)
      | (with_reducible exact ih1 _ _ _)
      | (with_reducible exact ih2 _ _ _)
      | (with_reducible exact culletlaw02_awake.mono _)
      | (with_reducible exact gf8_Mul.mono _ _ _)
      | (with_reducible exact gf8_Pow.mono _ _ _)
      | (with_reducible exact LeO.refl _)
      | (with_reducible exact LeO.none _)
      | (with_reducible refine LeO.ite ?_ ?_)
      | (with_reducible refine LeO.bind ?_ (fun _ => ?_))
      | exact ih0 _ _ _
      | exact ih1 _ _ _
      | exact ih2 _ _ _
      | exact culletlaw02_awake.mono _
      | exact gf8_Mul.mono _ _ _
      | exact gf8_Pow.mono _ _ _
      | exact LeO.none _
      | refine LeO.ite ?_ ?_
      | refine LeO.bind ?_ (fun _ => ?_)
    · intro y0 y1 y2
      unfold culletlaw02_Gf8Sums.j1
      repeat' first
      | (with_reducible exact ih0 _ _ _)
      | (with_reducible exact ih1 _ _ _)
      | (with_reducible exact ih2 _ _ _)
      | (with_reducible exact culletlaw02_awake.mono _)
      | (with_reducible exact gf8_Mul.mono _ _ _)
      | (with_reducible exact gf8_Pow.mono _ _ _)
      | (with_reducible exact LeO.refl _)
      | (with_reducible exact LeO.none _)
      | (with_reducible refine LeO.ite ?_ ?_)
      | (with_reducible refine LeO.bind ?_ (fun _ => ?_))
      | exact ih0 _ _ _
      | exact ih1 _ _ _
      | exact ih2 _ _ _
      | exact culletlaw02_awake.mono _
      | exact gf8_Mul.mono _ _ _
      | exact gf8_Pow.mono _ _ _
      | exact LeO.none _
      | refine LeO.ite ?_ ?_
      | refine LeO.bind ?_ (fun _ => ?_)
    · intro y0 y1 y2
      unfold culletlaw02_Gf8Sums.j2
      repeat' first
      | (with_reducible exact ih0 _ _ _)
      | (with_reducible exact ih1 _ _ _)
      | (with_reducible exact ih2 _ _ _)
      | (with_reducible exact culletlaw02_awake.mono _)
      | (with_reducible exact gf8_Mul.mono _ _ _)
      | (with_reducible exact gf8_Pow.mono _ _ _)
      | (with_reducible exact LeO.refl _)
      | (with_reducible exact LeO.none _)
      | (with_reducible refine LeO.ite ?_ ?_)
      | (with_reducible refine LeO.bind ?_ (fun _ => ?_))
      | exact ih0 _ _ _
      | exact ih1 _ _ _
      | exact ih2 _ _ _
      | exact culletlaw02_awake.mono _
      | exact gf8_Mul.mono _ _ _
      | exact gf8_Pow.mono _ _ _
      | exact LeO.none _
      | refine LeO.ite ?_ ?_
      | refine LeO.bind ?_ (fun _ => ?_)
theorem culletlaw02_Gf8Sums.mono : ∀ a0 a1 a2 k, LeO (culletlaw02_Gf8Sums.f k a0 a1 a2) (culletlaw02_Gf8Sums.f (k + 1) a0 a1 a2) := by
  intro a0 a1 a2 k
  obtain ⟨ih0, ih1, ih2⟩ := culletlaw02_Gf8Sums.mono_l k
  unfold culletlaw02_Gf8Sums.f
  repeat' first
      | (with_reducible exact ih0 _ _ _)
      | (with_reducible exact ih1 _ _ _)
      | (with_reducible exact ih2 _ _ _)
      | (with_reducible exact culletlaw02_awake.mono _)
      | (with_reducible exact gf8_Mul.mono _ _ _)
      | (with_reducible exact gf8_Pow.mono _ _ _)
      | (with_reducible exact LeO.refl _)
      | (with_reducible exact LeO.none _)
      | (with_reducible refine LeO.ite ?_ ?_)
      | (with_reducible refine LeO.bind ?_ (fun _ => ?_))
      | exact ih0 _ _ _
      | exact ih1 _ _ _
      | exact ih2 _ _ _
      | exact culletlaw02_awake.mono _
      | exact gf8_Mul.mono _ _ _
      | exact gf8_Pow.mono _ _ _
      | exact LeO.none _
      | refine LeO.ite ?_ ?_
      | refine LeO.bind ?_ (fun _ => ?_)
set_option maxHeartbeats 8000000 in
set_option maxRecDepth 100000 in
theorem culletlaw02_Gf8Sums.calls (k : Nat) (a0 : Int) (a1 : Int) (a2 : Int) (r : Bool) (w : World) (h : culletlaw02_Gf8Sums.f k a0 a1 a2 = some r) :
    Calls Try.prog 6 #[.int .u8 a0, .int .u8 a1, .int .i64 a2] w fun e w' => e = .returned (.bool r) ∧ Drawn0 w w' := by
  have H : ((culletlaw02_awake.f k).bind fun t111 => (if t111 = true then ((gf8_Pow.f k (Go.bits .xor .u8 a0 a1) 2).bind fun bt112 => ((gf8_Pow.f k a0 2).bind fun bt114 => ((gf8_Pow.f k a1 2).bind fun bt116 => (if bt112.2 = 0 then (if bt114.2 = 0 then (if bt116.2 = 0 then (culletlaw02_Gf8Sums.j0 k a0 a2 (bt112.1 != (Go.bits .xor .u8 bt114.1 bt116.1))) else (culletlaw02_Gf8Sums.j0 k a0 a2 true)) else (culletlaw02_Gf8Sums.j0 k a0 a2 true)) else (culletlaw02_Gf8Sums.j0 k a0 a2 true))))) else (some false))) = some r := h
  clear h
  replace H := Option.bind_eq_some_iff.mp H
  obtain ⟨t111, A40, H⟩ := H
  replace H : (if t111 = true then ((gf8_Pow.f k (Go.bits .xor .u8 a0 a1) 2).bind fun bt112 => ((gf8_Pow.f k a0 2).bind fun bt114 => ((gf8_Pow.f k a1 2).bind fun bt116 => (if bt112.2 = 0 then (if bt114.2 = 0 then (if bt116.2 = 0 then (culletlaw02_Gf8Sums.j0 k a0 a2 (bt112.1 != (Go.bits .xor .u8 bt114.1 bt116.1))) else (culletlaw02_Gf8Sums.j0 k a0 a2 true)) else (culletlaw02_Gf8Sums.j0 k a0 a2 true)) else (culletlaw02_Gf8Sums.j0 k a0 a2 true))))) else (some false)) = some r := H
  have A4 := Aside0.mk A40
  clear A40
  by_cases c5 : t111 = true
  · subst c5
    have H1 : ((gf8_Pow.f k (Go.bits .xor .u8 a0 a1) 2).bind fun bt112 => ((gf8_Pow.f k a0 2).bind fun bt114 => ((gf8_Pow.f k a1 2).bind fun bt116 => (if bt112.2 = 0 then (if bt114.2 = 0 then (if bt116.2 = 0 then (culletlaw02_Gf8Sums.j0 k a0 a2 (bt112.1 != (Go.bits .xor .u8 bt114.1 bt116.1))) else (culletlaw02_Gf8Sums.j0 k a0 a2 true)) else (culletlaw02_Gf8Sums.j0 k a0 a2 true)) else (culletlaw02_Gf8Sums.j0 k a0 a2 true))))) = some r := by rw [if_pos rfl] at H; exact H
    clear H
    have H := H1
    clear H1
    replace H := Option.bind_eq_some_iff.mp H
    obtain ⟨⟨t112, t113⟩, A60, H⟩ := H
    replace H : ((gf8_Pow.f k a0 2).bind fun bt114 => ((gf8_Pow.f k a1 2).bind fun bt116 => (if t113 = 0 then (if bt114.2 = 0 then (if bt116.2 = 0 then (culletlaw02_Gf8Sums.j0 k a0 a2 (t112 != (Go.bits .xor .u8 bt114.1 bt116.1))) else (culletlaw02_Gf8Sums.j0 k a0 a2 true)) else (culletlaw02_Gf8Sums.j0 k a0 a2 true)) else (culletlaw02_Gf8Sums.j0 k a0 a2 true)))) = some r := H
    have A6 := Aside0.mk A60
    clear A60
    replace H := Option.bind_eq_some_iff.mp H
    obtain ⟨⟨t114, t115⟩, A70, H⟩ := H
    replace H : ((gf8_Pow.f k a1 2).bind fun bt116 => (if t113 = 0 then (if t115 = 0 then (if bt116.2 = 0 then (culletlaw02_Gf8Sums.j0 k a0 a2 (t112 != (Go.bits .xor .u8 t114 bt116.1))) else (culletlaw02_Gf8Sums.j0 k a0 a2 true)) else (culletlaw02_Gf8Sums.j0 k a0 a2 true)) else (culletlaw02_Gf8Sums.j0 k a0 a2 true))) = some r := H
    have A7 := Aside0.mk A70
    clear A70
    replace H := Option.bind_eq_some_iff.mp H
    obtain ⟨⟨t116, t117⟩, A80, H⟩ := H
    replace H : (if t113 = 0 then (if t115 = 0 then (if t117 = 0 then (culletlaw02_Gf8Sums.j0 k a0 a2 (t112 != (Go.bits .xor .u8 t114 t116))) else (culletlaw02_Gf8Sums.j0 k a0 a2 true)) else (culletlaw02_Gf8Sums.j0 k a0 a2 true)) else (culletlaw02_Gf8Sums.j0 k a0 a2 true)) = some r := H
    have A8 := Aside0.mk A80
    clear A80
    have HC9 := Aside0.mk H
    clear H
    go_enter Try.func6, Try.ntmps6
    go_upto_region 6 with (first | ((with_reducible refine gate_callee (f := 12) rfl ?_); refine goesL_ (some 19) rfl rfl Try.func12 (by kernel_rfl) rfl #[] rfl (by (try simp only [List.map_toArray, List.map_cons, List.map_nil]); first | done | rfl | (simp only [List.length_drop, List.length_take]; rfl)) ?_; (with_reducible refine (culletlaw02_awake.calls k  true _ A4.out).mono ?_); rintro e w' ⟨rfl, ⟨nd, rfl⟩⟩; refine ⟨_, rfl, ?_⟩) | ((with_reducible refine gate_callee (f := 17) rfl ?_); refine goesL_ (some 25) rfl rfl Try.func17 (by kernel_rfl) rfl #[.int .u8 (Go.bits .xor .u8 a0 a1), .int .i64 2] rfl (by (try simp only [List.map_toArray, List.map_cons, List.map_nil]); first | done | rfl | (simp only [List.length_drop, List.length_take]; rfl)) ?_; (with_reducible refine (gf8_Pow.calls k (Go.bits .xor .u8 a0 a1) 2 t112 t113 _ A6.out).mono ?_); rintro e w' ⟨rfl, ⟨nd, rfl⟩⟩; refine ⟨_, rfl, ?_⟩) | ((with_reducible refine gate_callee (f := 17) rfl ?_); refine goesL_ (some 30) rfl rfl Try.func17 (by kernel_rfl) rfl #[.int .u8 a0, .int .i64 2] rfl (by (try simp only [List.map_toArray, List.map_cons, List.map_nil]); first | done | rfl | (simp only [List.length_drop, List.length_take]; rfl)) ?_; (with_reducible refine (gf8_Pow.calls k a0 2 t114 t115 _ A7.out).mono ?_); rintro e w' ⟨rfl, ⟨nd, rfl⟩⟩; refine ⟨_, rfl, ?_⟩) | ((with_reducible refine gate_callee (f := 17) rfl ?_); refine goesL_ (some 35) rfl rfl Try.func17 (by kernel_rfl) rfl #[.int .u8 a1, .int .i64 2] rfl (by (try simp only [List.map_toArray, List.map_cons, List.map_nil]); first | done | rfl | (simp only [List.length_drop, List.length_take]; rfl)) ?_; (with_reducible refine (gf8_Pow.calls k a1 2 t116 t117 _ A8.out).mono ?_); rintro e w' ⟨rfl, ⟨nd, rfl⟩⟩; refine ⟨_, rfl, ?_⟩))
    (try simp only [Act.put, List.setIfInBounds_toArray, List.set_cons_zero, List.set_cons_succ])
    go_cut [54] (fun v54 wc => ∃ (kq : Nat) (x54_8 : Bool), v54 = .bool x54_8 ∧ Aside0 (culletlaw02_Gf8Sums.j0 kq a0 a2 x54_8 = some r) ∧ Aside0 (kq ≤ k) ∧ Drawn0 w wc)
    case first =>
      have H := HC9.out
      clear HC9
      by_cases c10 : t113 = 0
      · rw [if_pos c10] at H
        have c10b0 : (t113 == 0) = true := beq_iff_eq.mpr c10
        have c10b1 : (t113 != 0) = false := bne_eq_false_iff_eq.mpr c10
        clear c10
        (first | rw [c10b0] | (simp only [i64_w, i32_w]; rw [c10b0]) | skip)
        by_cases c11 : t115 = 0
        · rw [if_pos c11] at H
          have c11b0 : (t115 == 0) = true := beq_iff_eq.mpr c11
          have c11b1 : (t115 != 0) = false := bne_eq_false_iff_eq.mpr c11
          clear c11
          by_cases c12 : t117 = 0
          · rw [if_pos c12] at H
            have c12b0 : (t117 == 0) = true := beq_iff_eq.mpr c12
            have c12b1 : (t117 != 0) = false := bne_eq_false_iff_eq.mpr c12
            clear c12
            have H' := Aside0.mk H
            clear H
            go_wp2
            go_meet
            case rel => exact ⟨_, ((t112 != (Go.bits .xor .u8 t114 t116))), (by first | rfl | (simp; done) | (simp [*]; done)), H', ⟨by first | omega | exact Nat.le_refl _⟩, by repeat (first | exact Drawn0.refl _ | apply Drawn0.step)⟩
          · rw [if_neg c12] at H
            have c12b0 : (t117 == 0) = false := beq_eq_false_iff_ne.mpr c12
            have c12b1 : (t117 != 0) = true := bne_iff_ne.mpr c12
            have H' := Aside0.mk H
            clear H
            go_wp2
            go_meet
            case rel => exact ⟨_, (true), (by first | rfl | (simp; done) | (simp [*]; done)), H', ⟨by first | omega | exact Nat.le_refl _⟩, by repeat (first | exact Drawn0.refl _ | apply Drawn0.step)⟩
        · rw [if_neg c11] at H
          have c11b0 : (t115 == 0) = false := beq_eq_false_iff_ne.mpr c11
          have c11b1 : (t115 != 0) = true := bne_iff_ne.mpr c11
          have H' := Aside0.mk H
          clear H
          go_wp2
          go_meet
          case rel => exact ⟨_, (true), (by first | rfl | (simp; done) | (simp [*]; done)), H', ⟨by first | omega | exact Nat.le_refl _⟩, by repeat (first | exact Drawn0.refl _ | apply Drawn0.step)⟩
      · rw [if_neg c10] at H
        have c10b0 : (t113 == 0) = false := beq_eq_false_iff_ne.mpr c10
        have c10b1 : (t113 != 0) = true := bne_iff_ne.mpr c10
        (first | rw [c10b0] | (simp only [i64_w, i32_w]; rw [c10b0]) | skip)
        have H' := Aside0.mk H
        clear H
        go_wp2
        go_meet
        case rel => exact ⟨_, (true), (by first | rfl | (simp; done) | (simp [*]; done)), H', ⟨by first | omega | exact Nat.le_refl _⟩, by repeat (first | exact Drawn0.refl _ | apply Drawn0.step)⟩
    case rest =>
      clear HC9
      try clear c1
      try clear p2
      try clear c5
      try clear c6
      try clear c10
      try clear c10b0
      try clear c10b1
      try clear c11
      try clear c11b0
      try clear c11b1
      try clear c12
      try clear c12b0
      try clear c12b1
      obtain ⟨kq, x54_8, rfl, HA, HJ8, ⟨mc8, rfl⟩⟩ := hcut
      cases kq with
      | zero => exact absurd HA.out (by simp [culletlaw02_Gf8Sums.j0])
      | succ kj8 =>
        have H := HA.out
        clear HA
        simp only [culletlaw02_Gf8Sums.j0] at H
        by_cases c13 : x54_8 = true
        · subst c13
          have H1 : (some false) = some r := by rw [if_pos rfl] at H; exact H
          clear H
          have H := H1
          clear H1
          obtain rfl := Option.some.inj H
          go_wp2
          go_ret
          exact ⟨by first | rfl | (simp; done) | (simp [*]; done), by repeat (first | exact Drawn0.refl _ | apply Drawn0.step)⟩
        · replace c13 := Bool.eq_false_iff.mpr c13
          subst c13
          have H1 : ((gf8_Pow.f kj8 0 a2).bind fun bt118 => (if a2 > 0 then (if bt118.1 = 0 then (if bt118.2 = 0 then (if a2 = 0 then (if bt118.1 = 1 then (if a2 < 0 then (culletlaw02_Gf8Sums.j1 kj8 a0 a2 (bt118.2 != 20)) else (culletlaw02_Gf8Sums.j1 kj8 a0 a2 false)) else (culletlaw02_Gf8Sums.j1 kj8 a0 a2 true)) else (if a2 < 0 then (culletlaw02_Gf8Sums.j1 kj8 a0 a2 (bt118.2 != 20)) else (culletlaw02_Gf8Sums.j1 kj8 a0 a2 false))) else (culletlaw02_Gf8Sums.j1 kj8 a0 a2 true)) else (culletlaw02_Gf8Sums.j1 kj8 a0 a2 true)) else (if a2 = 0 then (if bt118.1 = 1 then (if bt118.2 = 0 then (if a2 < 0 then (if bt118.1 = 0 then (culletlaw02_Gf8Sums.j1 kj8 a0 a2 (bt118.2 != 20)) else (culletlaw02_Gf8Sums.j1 kj8 a0 a2 true)) else (culletlaw02_Gf8Sums.j1 kj8 a0 a2 false)) else (culletlaw02_Gf8Sums.j1 kj8 a0 a2 true)) else (culletlaw02_Gf8Sums.j1 kj8 a0 a2 true)) else (if a2 < 0 then (if bt118.1 = 0 then (culletlaw02_Gf8Sums.j1 kj8 a0 a2 (bt118.2 != 20)) else (culletlaw02_Gf8Sums.j1 kj8 a0 a2 true)) else (culletlaw02_Gf8Sums.j1 kj8 a0 a2 false))))) = some r := by rw [if_neg (show ¬ (false = true) by decide)] at H; exact H
          clear H
          have H := H1
          clear H1
          replace H := Option.bind_eq_some_iff.mp H
          obtain ⟨⟨t118, t119⟩, A140, H⟩ := H
          replace H : (if a2 > 0 then (if t118 = 0 then (if t119 = 0 then (if a2 = 0 then (if t118 = 1 then (if a2 < 0 then (culletlaw02_Gf8Sums.j1 kj8 a0 a2 (t119 != 20)) else (culletlaw02_Gf8Sums.j1 kj8 a0 a2 false)) else (culletlaw02_Gf8Sums.j1 kj8 a0 a2 true)) else (if a2 < 0 then (culletlaw02_Gf8Sums.j1 kj8 a0 a2 (t119 != 20)) else (culletlaw02_Gf8Sums.j1 kj8 a0 a2 false))) else (culletlaw02_Gf8Sums.j1 kj8 a0 a2 true)) else (culletlaw02_Gf8Sums.j1 kj8 a0 a2 true)) else (if a2 = 0 then (if t118 = 1 then (if t119 = 0 then (if a2 < 0 then (if t118 = 0 then (culletlaw02_Gf8Sums.j1 kj8 a0 a2 (t119 != 20)) else (culletlaw02_Gf8Sums.j1 kj8 a0 a2 true)) else (culletlaw02_Gf8Sums.j1 kj8 a0 a2 false)) else (culletlaw02_Gf8Sums.j1 kj8 a0 a2 true)) else (culletlaw02_Gf8Sums.j1 kj8 a0 a2 true)) else (if a2 < 0 then (if t118 = 0 then (culletlaw02_Gf8Sums.j1 kj8 a0 a2 (t119 != 20)) else (culletlaw02_Gf8Sums.j1 kj8 a0 a2 true)) else (culletlaw02_Gf8Sums.j1 kj8 a0 a2 false)))) = some r := H
          have A14 := Aside0.mk A140
          clear A140
          have HC15 := Aside0.mk H
          clear H
          go_upto_region 9 with (first | ((with_reducible refine gate_callee (f := 17) rfl ?_); refine goesL_ (some 57) rfl rfl Try.func17 (by kernel_rfl) rfl #[.int .u8 0, .int .i64 a2] rfl (by (try simp only [List.map_toArray, List.map_cons, List.map_nil]); first | done | rfl | (simp only [List.length_drop, List.length_take]; rfl)) ?_; (with_reducible refine (gf8_Pow.calls kj8 0 a2 t118 t119 _ A14.out).mono ?_); rintro e w' ⟨rfl, ⟨nd, rfl⟩⟩; refine ⟨_, rfl, ?_⟩))
          (try simp only [Act.put, List.setIfInBounds_toArray, List.set_cons_zero, List.set_cons_succ])
          go_cut [93] (fun v93 wc => ∃ (kq : Nat) (x93_14 : Bool), v93 = .bool x93_14 ∧ Aside0 (culletlaw02_Gf8Sums.j1 kq a0 a2 x93_14 = some r) ∧ Aside0 (kq ≤ kj8) ∧ Drawn0 w wc)
          case first =>
            have H := HC15.out
            clear HC15
            by_cases c16 : a2 > 0
            · rw [if_pos c16] at H
              have c16b0 : decide (0 < a2) = true := decide_eq_true c16
              clear c16
              (first | rw [c16b0] | (simp only [i64_w, i32_w]; rw [c16b0]) | skip)
              by_cases c17 : t118 = 0
              · rw [if_pos c17] at H
                have c17b0 : (t118 == 0) = true := beq_iff_eq.mpr c17
                have c17b1 : (t118 != 0) = false := bne_eq_false_iff_eq.mpr c17
                clear c17
                by_cases c18 : t119 = 0
                · rw [if_pos c18] at H
                  have c18b0 : (t119 == 0) = true := beq_iff_eq.mpr c18
                  have c18b1 : (t119 != 0) = false := bne_eq_false_iff_eq.mpr c18
                  clear c18
                  by_cases c19 : a2 = 0
                  · rw [if_pos c19] at H
                    have c19b0 : (a2 == 0) = true := beq_iff_eq.mpr c19
                    have c19b1 : (a2 != 0) = false := bne_eq_false_iff_eq.mpr c19
                    clear c19
                    by_cases c20 : t118 = 1
                    · rw [if_pos c20] at H
                      have c20b0 : (t118 == 1) = true := beq_iff_eq.mpr c20
                      have c20b1 : (t118 != 1) = false := bne_eq_false_iff_eq.mpr c20
                      clear c20
                      by_cases c21 : a2 < 0
                      · rw [if_pos c21] at H
                        have c21b0 : decide (a2 < 0) = true := decide_eq_true c21
                        clear c21
                        have H' := Aside0.mk H
                        clear H
                        go_wp2
                        go_meet
                        case rel => exact ⟨_, ((t119 != 20)), (by first | rfl | (simp; done) | (simp [*]; done)), H', ⟨by have := HJ8.out; first | omega | exact Nat.le_refl _⟩, by repeat (first | exact Drawn0.refl _ | apply Drawn0.step)⟩
                      · rw [if_neg c21] at H
                        have c21b0 : decide (a2 < 0) = false := decide_eq_false c21
                        clear c21
                        have H' := Aside0.mk H
                        clear H
                        go_wp2
                        go_meet
                        case rel => exact ⟨_, (false), (by first | rfl | (simp; done) | (simp [*]; done)), H', ⟨by have := HJ8.out; first | omega | exact Nat.le_refl _⟩, by repeat (first | exact Drawn0.refl _ | apply Drawn0.step)⟩
                    · rw [if_neg c20] at H
                      have c20b0 : (t118 == 1) = false := beq_eq_false_iff_ne.mpr c20
                      have c20b1 : (t118 != 1) = true := bne_iff_ne.mpr c20
                      have H' := Aside0.mk H
                      clear H
                      go_wp2
                      go_meet
                      case rel => exact ⟨_, (true), (by first | rfl | (simp; done) | (simp [*]; done)), H', ⟨by have := HJ8.out; first | omega | exact Nat.le_refl _⟩, by repeat (first | exact Drawn0.refl _ | apply Drawn0.step)⟩
                  · rw [if_neg c19] at H
                    have c19b0 : (a2 == 0) = false := beq_eq_false_iff_ne.mpr c19
                    have c19b1 : (a2 != 0) = true := bne_iff_ne.mpr c19
                    by_cases c22 : a2 < 0
                    · rw [if_pos c22] at H
                      have c22b0 : decide (a2 < 0) = true := decide_eq_true c22
                      clear c22
                      have H' := Aside0.mk H
                      clear H
                      go_wp2
                      go_meet
                      case rel => exact ⟨_, ((t119 != 20)), (by first | rfl | (simp; done) | (simp [*]; done)), H', ⟨by have := HJ8.out; first | omega | exact Nat.le_refl _⟩, by repeat (first | exact Drawn0.refl _ | apply Drawn0.step)⟩
                    · rw [if_neg c22] at H
                      have c22b0 : decide (a2 < 0) = false := decide_eq_false c22
                      clear c22
                      have H' := Aside0.mk H
                      clear H
                      go_wp2
                      go_meet
                      case rel => exact ⟨_, (false), (by first | rfl | (simp; done) | (simp [*]; done)), H', ⟨by have := HJ8.out; first | omega | exact Nat.le_refl _⟩, by repeat (first | exact Drawn0.refl _ | apply Drawn0.step)⟩
                · rw [if_neg c18] at H
                  have c18b0 : (t119 == 0) = false := beq_eq_false_iff_ne.mpr c18
                  have c18b1 : (t119 != 0) = true := bne_iff_ne.mpr c18
                  have H' := Aside0.mk H
                  clear H
                  go_wp2
                  go_meet
                  case rel => exact ⟨_, (true), (by first | rfl | (simp; done) | (simp [*]; done)), H', ⟨by have := HJ8.out; first | omega | exact Nat.le_refl _⟩, by repeat (first | exact Drawn0.refl _ | apply Drawn0.step)⟩
              · rw [if_neg c17] at H
                have c17b0 : (t118 == 0) = false := beq_eq_false_iff_ne.mpr c17
                have c17b1 : (t118 != 0) = true := bne_iff_ne.mpr c17
                have H' := Aside0.mk H
                clear H
                go_wp2
                go_meet
                case rel => exact ⟨_, (true), (by first | rfl | (simp; done) | (simp [*]; done)), H', ⟨by have := HJ8.out; first | omega | exact Nat.le_refl _⟩, by repeat (first | exact Drawn0.refl _ | apply Drawn0.step)⟩
            · rw [if_neg c16] at H
              have c16b0 : decide (0 < a2) = false := decide_eq_false c16
              clear c16
              (first | rw [c16b0] | (simp only [i64_w, i32_w]; rw [c16b0]) | skip)
              by_cases c23 : a2 = 0
              · rw [if_pos c23] at H
                have c23b0 : (a2 == 0) = true := beq_iff_eq.mpr c23
                have c23b1 : (a2 != 0) = false := bne_eq_false_iff_eq.mpr c23
                clear c23
                by_cases c24 : t118 = 1
                · rw [if_pos c24] at H
                  have c24b0 : (t118 == 1) = true := beq_iff_eq.mpr c24
                  have c24b1 : (t118 != 1) = false := bne_eq_false_iff_eq.mpr c24
                  clear c24
                  by_cases c25 : t119 = 0
                  · rw [if_pos c25] at H
                    have c25b0 : (t119 == 0) = true := beq_iff_eq.mpr c25
                    have c25b1 : (t119 != 0) = false := bne_eq_false_iff_eq.mpr c25
                    clear c25
                    by_cases c26 : a2 < 0
                    · rw [if_pos c26] at H
                      have c26b0 : decide (a2 < 0) = true := decide_eq_true c26
                      clear c26
                      by_cases c27 : t118 = 0
                      · rw [if_pos c27] at H
                        have c27b0 : (t118 == 0) = true := beq_iff_eq.mpr c27
                        have c27b1 : (t118 != 0) = false := bne_eq_false_iff_eq.mpr c27
                        clear c27
                        have H' := Aside0.mk H
                        clear H
                        go_wp2
                        go_meet
                        case rel => exact ⟨_, ((t119 != 20)), (by first | rfl | (simp; done) | (simp [*]; done)), H', ⟨by have := HJ8.out; first | omega | exact Nat.le_refl _⟩, by repeat (first | exact Drawn0.refl _ | apply Drawn0.step)⟩
                      · rw [if_neg c27] at H
                        have c27b0 : (t118 == 0) = false := beq_eq_false_iff_ne.mpr c27
                        have c27b1 : (t118 != 0) = true := bne_iff_ne.mpr c27
                        have H' := Aside0.mk H
                        clear H
                        go_wp2
                        go_meet
                        case rel => exact ⟨_, (true), (by first | rfl | (simp; done) | (simp [*]; done)), H', ⟨by have := HJ8.out; first | omega | exact Nat.le_refl _⟩, by repeat (first | exact Drawn0.refl _ | apply Drawn0.step)⟩
                    · rw [if_neg c26] at H
                      have c26b0 : decide (a2 < 0) = false := decide_eq_false c26
                      clear c26
                      have H' := Aside0.mk H
                      clear H
                      go_wp2
                      go_meet
                      case rel => exact ⟨_, (false), (by first | rfl | (simp; done) | (simp [*]; done)), H', ⟨by have := HJ8.out; first | omega | exact Nat.le_refl _⟩, by repeat (first | exact Drawn0.refl _ | apply Drawn0.step)⟩
                  · rw [if_neg c25] at H
                    have c25b0 : (t119 == 0) = false := beq_eq_false_iff_ne.mpr c25
                    have c25b1 : (t119 != 0) = true := bne_iff_ne.mpr c25
                    have H' := Aside0.mk H
                    clear H
                    go_wp2
                    go_meet
                    case rel => exact ⟨_, (true), (by first | rfl | (simp; done) | (simp [*]; done)), H', ⟨by have := HJ8.out; first | omega | exact Nat.le_refl _⟩, by repeat (first | exact Drawn0.refl _ | apply Drawn0.step)⟩
                · rw [if_neg c24] at H
                  have c24b0 : (t118 == 1) = false := beq_eq_false_iff_ne.mpr c24
                  have c24b1 : (t118 != 1) = true := bne_iff_ne.mpr c24
                  have H' := Aside0.mk H
                  clear H
                  go_wp2
                  go_meet
                  case rel => exact ⟨_, (true), (by first | rfl | (simp; done) | (simp [*]; done)), H', ⟨by have := HJ8.out; first | omega | exact Nat.le_refl _⟩, by repeat (first | exact Drawn0.refl _ | apply Drawn0.step)⟩
              · rw [if_neg c23] at H
                have c23b0 : (a2 == 0) = false := beq_eq_false_iff_ne.mpr c23
                have c23b1 : (a2 != 0) = true := bne_iff_ne.mpr c23
                by_cases c28 : a2 < 0
                · rw [if_pos c28] at H
                  have c28b0 : decide (a2 < 0) = true := decide_eq_true c28
                  clear c28
                  by_cases c29 : t118 = 0
                  · rw [if_pos c29] at H
                    have c29b0 : (t118 == 0) = true := beq_iff_eq.mpr c29
                    have c29b1 : (t118 != 0) = false := bne_eq_false_iff_eq.mpr c29
                    clear c29
                    have H' := Aside0.mk H
                    clear H
                    go_wp2
                    go_meet
                    case rel => exact ⟨_, ((t119 != 20)), (by first | rfl | (simp; done) | (simp [*]; done)), H', ⟨by have := HJ8.out; first | omega | exact Nat.le_refl _⟩, by repeat (first | exact Drawn0.refl _ | apply Drawn0.step)⟩
                  · rw [if_neg c29] at H
                    have c29b0 : (t118 == 0) = false := beq_eq_false_iff_ne.mpr c29
                    have c29b1 : (t118 != 0) = true := bne_iff_ne.mpr c29
                    have H' := Aside0.mk H
                    clear H
                    go_wp2
                    go_meet
                    case rel => exact ⟨_, (true), (by first | rfl | (simp; done) | (simp [*]; done)), H', ⟨by have := HJ8.out; first | omega | exact Nat.le_refl _⟩, by repeat (first | exact Drawn0.refl _ | apply Drawn0.step)⟩
                · rw [if_neg c28] at H
                  have c28b0 : decide (a2 < 0) = false := decide_eq_false c28
                  clear c28
                  have H' := Aside0.mk H
                  clear H
                  go_wp2
                  go_meet
                  case rel => exact ⟨_, (false), (by first | rfl | (simp; done) | (simp [*]; done)), H', ⟨by have := HJ8.out; first | omega | exact Nat.le_refl _⟩, by repeat (first | exact Drawn0.refl _ | apply Drawn0.step)⟩
          case rest =>
            clear HC15
            try clear c1
            try clear c2
            try clear p2
            try clear c5
            try clear c6
            try clear c8
            try clear c10
            try clear c10b0
            try clear c10b1
            try clear c11
            try clear c11b0
            try clear c11b1
            try clear c12
            try clear c12b0
            try clear c12b1
            try clear c13
            try clear c16
            try clear c16b0
            try clear c17
            try clear c17b0
            try clear c17b1
            try clear c18
            try clear c18b0
            try clear c18b1
            try clear c19
            try clear c19b0
            try clear c19b1
            try clear c20
            try clear c20b0
            try clear c20b1
            try clear c21
            try clear c21b0
            try clear c22
            try clear c22b0
            try clear c23
            try clear c23b0
            try clear c23b1
            try clear c24
            try clear c24b0
            try clear c24b1
            try clear c25
            try clear c25b0
            try clear c25b1
            try clear c26
            try clear c26b0
            try clear c27
            try clear c27b0
            try clear c27b1
            try clear c28
            try clear c28b0
            try clear c29
            try clear c29b0
            try clear c29b1
            try clear p2
            obtain ⟨kq, x93_14, rfl, HA, HJ14, ⟨mc14, rfl⟩⟩ := hcut
            cases kq with
            | zero => exact absurd HA.out (by simp [culletlaw02_Gf8Sums.j1])
            | succ kj14 =>
              have H := HA.out
              clear HA
              simp only [culletlaw02_Gf8Sums.j1] at H
              by_cases c30 : x93_14 = true
              · subst c30
                have H1 : (some false) = some r := by rw [if_pos rfl] at H; exact H
                clear H
                have H := H1
                clear H1
                obtain rfl := Option.some.inj H
                go_wp2
                go_ret
                exact ⟨by first | rfl | (simp; done) | (simp [*]; done), by repeat (first | exact Drawn0.refl _ | apply Drawn0.step)⟩
              · replace c30 := Bool.eq_false_iff.mpr c30
                subst c30
                have H1 : (if a0 = 0 then (culletlaw02_Gf8Sums.j2 kj14 a0 a2 true) else (if a2 = 9223372036854775807 then (culletlaw02_Gf8Sums.j2 kj14 a0 a2 true) else (culletlaw02_Gf8Sums.j2 kj14 a0 a2 (a2 == (-9223372036854775808))))) = some r := by rw [if_neg (show ¬ (false = true) by decide)] at H; exact H
                clear H
                have H := H1
                clear H1
                have HC31 := Aside0.mk H
                clear H
                go_upto_region 11 with (fail)
                go_cut [103] (fun v103 wc => ∃ (kq : Nat) (x103_30 : Bool), v103 = .bool x103_30 ∧ Aside0 (culletlaw02_Gf8Sums.j2 kq a0 a2 x103_30 = some r) ∧ Aside0 (kq ≤ kj14) ∧ Drawn0 w wc)
                case first =>
                  have H := HC31.out
                  clear HC31
                  by_cases c32 : a0 = 0
                  · rw [if_pos c32] at H
                    have c32b0 : (a0 == 0) = true := beq_iff_eq.mpr c32
                    have c32b1 : (a0 != 0) = false := bne_eq_false_iff_eq.mpr c32
                    clear c32
                    (first | rw [c32b0] | (simp only [i64_w, i32_w]; rw [c32b0]) | skip)
                    have H' := Aside0.mk H
                    clear H
                    go_wp2
                    go_meet
                    case rel => exact ⟨_, (true), (by first | rfl | (simp; done) | (simp [*]; done)), H', ⟨by have := HJ8.out; have := HJ14.out; first | omega | exact Nat.le_refl _⟩, by repeat (first | exact Drawn0.refl _ | apply Drawn0.step)⟩
                  · rw [if_neg c32] at H
                    have c32b0 : (a0 == 0) = false := beq_eq_false_iff_ne.mpr c32
                    have c32b1 : (a0 != 0) = true := bne_iff_ne.mpr c32
                    (first | rw [c32b0] | (simp only [i64_w, i32_w]; rw [c32b0]) | skip)
                    by_cases c33 : a2 = 9223372036854775807
                    · rw [if_pos c33] at H
                      have c33b0 : (a2 == 9223372036854775807) = true := beq_iff_eq.mpr c33
                      have c33b1 : (a2 != 9223372036854775807) = false := bne_eq_false_iff_eq.mpr c33
                      clear c33
                      have H' := Aside0.mk H
                      clear H
                      go_wp2
                      go_meet
                      case rel => exact ⟨_, (true), (by first | rfl | (simp; done) | (simp [*]; done)), H', ⟨by have := HJ8.out; have := HJ14.out; first | omega | exact Nat.le_refl _⟩, by repeat (first | exact Drawn0.refl _ | apply Drawn0.step)⟩
                    · rw [if_neg c33] at H
                      have c33b0 : (a2 == 9223372036854775807) = false := beq_eq_false_iff_ne.mpr c33
                      have c33b1 : (a2 != 9223372036854775807) = true := bne_iff_ne.mpr c33
                      have H' := Aside0.mk H
                      clear H
                      go_wp2
                      go_meet
                      case rel => exact ⟨_, ((a2 == (-9223372036854775808))), (by first | rfl | (simp; done) | (simp [*]; done)), H', ⟨by have := HJ8.out; have := HJ14.out; first | omega | exact Nat.le_refl _⟩, by repeat (first | exact Drawn0.refl _ | apply Drawn0.step)⟩
                case rest =>
                  clear HC31
                  try clear c1
                  try clear c2
                  try clear p2
                  try clear c3
                  try clear c5
                  try clear c6
                  try clear c8
                  try clear c10
                  try clear c10b0
                  try clear c10b1
                  try clear c11
                  try clear c11b0
                  try clear c11b1
                  try clear c12
                  try clear c12b0
                  try clear c12b1
                  try clear c13
                  try clear c14
                  try clear c16
                  try clear c16b0
                  try clear c17
                  try clear c17b0
                  try clear c17b1
                  try clear c18
                  try clear c18b0
                  try clear c18b1
                  try clear c19
                  try clear c19b0
                  try clear c19b1
                  try clear c20
                  try clear c20b0
                  try clear c20b1
                  try clear c21
                  try clear c21b0
                  try clear c22
                  try clear c22b0
                  try clear c23
                  try clear c23b0
                  try clear c23b1
                  try clear c24
                  try clear c24b0
                  try clear c24b1
                  try clear c25
                  try clear c25b0
                  try clear c25b1
                  try clear c26
                  try clear c26b0
                  try clear c27
                  try clear c27b0
                  try clear c27b1
                  try clear c28
                  try clear c28b0
                  try clear c29
                  try clear c29b0
                  try clear c29b1
                  try clear c30
                  try clear c32
                  try clear c32b0
                  try clear c32b1
                  try clear c33
                  try clear c33b0
                  try clear c33b1
                  try clear p2
                  obtain ⟨kq, x103_30, rfl, HA, HJ30, ⟨mc30, rfl⟩⟩ := hcut
                  cases kq with
                  | zero => exact absurd HA.out (by simp [culletlaw02_Gf8Sums.j2])
                  | succ kj30 =>
                    have H := HA.out
                    clear HA
                    simp only [culletlaw02_Gf8Sums.j2] at H
                    by_cases c34 : x103_30 = true
                    · subst c34
                      have H1 : (some true) = some r := by rw [if_pos rfl] at H; exact H
                      clear H
                      have H := H1
                      clear H1
                      obtain rfl := Option.some.inj H
                      go_wp2
                      go_ret
                      exact ⟨by first | rfl | (simp; done) | (simp [*]; done), by repeat (first | exact Drawn0.refl _ | apply Drawn0.step)⟩
                    · replace c34 := Bool.eq_false_iff.mpr c34
                      subst c34
                      have H1 : ((gf8_Pow.f kj30 a0 a2).bind fun bt120 => ((gf8_Pow.f kj30 a0 (wrap64 (a2 + 1))).bind fun bt122 => ((gf8_Pow.f kj30 a0 (wrap64 (-a2))).bind fun bt124 => ((gf8_Pow.f kj30 a0 255).bind fun bt126 => (if bt120.2 = 0 then (if bt122.2 = 0 then (if bt124.2 = 0 then (if bt126.2 = 0 then ((gf8_Mul.f kj30 bt120.1 a0).bind fun t128 => (if bt122.1 = t128 then ((gf8_Mul.f kj30 bt120.1 bt124.1).bind fun t129 => (if t129 = 1 then (some (bt126.1 == 1)) else (some false))) else (some false))) else (some false)) else (some false)) else (some false)) else (some false)))))) = some r := by rw [if_neg (show ¬ (false = true) by decide)] at H; exact H
                      clear H
                      have H := H1
                      clear H1
                      replace H := Option.bind_eq_some_iff.mp H
                      obtain ⟨⟨t120, t121⟩, A350, H⟩ := H
                      replace H : ((gf8_Pow.f kj30 a0 (wrap64 (a2 + 1))).bind fun bt122 => ((gf8_Pow.f kj30 a0 (wrap64 (-a2))).bind fun bt124 => ((gf8_Pow.f kj30 a0 255).bind fun bt126 => (if t121 = 0 then (if bt122.2 = 0 then (if bt124.2 = 0 then (if bt126.2 = 0 then ((gf8_Mul.f kj30 t120 a0).bind fun t128 => (if bt122.1 = t128 then ((gf8_Mul.f kj30 t120 bt124.1).bind fun t129 => (if t129 = 1 then (some (bt126.1 == 1)) else (some false))) else (some false))) else (some false)) else (some false)) else (some false)) else (some false))))) = some r := H
                      have A35 := Aside0.mk A350
                      clear A350
                      replace H := Option.bind_eq_some_iff.mp H
                      obtain ⟨⟨t122, t123⟩, A360, H⟩ := H
                      replace H : ((gf8_Pow.f kj30 a0 (wrap64 (-a2))).bind fun bt124 => ((gf8_Pow.f kj30 a0 255).bind fun bt126 => (if t121 = 0 then (if t123 = 0 then (if bt124.2 = 0 then (if bt126.2 = 0 then ((gf8_Mul.f kj30 t120 a0).bind fun t128 => (if t122 = t128 then ((gf8_Mul.f kj30 t120 bt124.1).bind fun t129 => (if t129 = 1 then (some (bt126.1 == 1)) else (some false))) else (some false))) else (some false)) else (some false)) else (some false)) else (some false)))) = some r := H
                      have A36 := Aside0.mk A360
                      clear A360
                      replace H := Option.bind_eq_some_iff.mp H
                      obtain ⟨⟨t124, t125⟩, A370, H⟩ := H
                      replace H : ((gf8_Pow.f kj30 a0 255).bind fun bt126 => (if t121 = 0 then (if t123 = 0 then (if t125 = 0 then (if bt126.2 = 0 then ((gf8_Mul.f kj30 t120 a0).bind fun t128 => (if t122 = t128 then ((gf8_Mul.f kj30 t120 t124).bind fun t129 => (if t129 = 1 then (some (bt126.1 == 1)) else (some false))) else (some false))) else (some false)) else (some false)) else (some false)) else (some false))) = some r := H
                      have A37 := Aside0.mk A370
                      clear A370
                      replace H := Option.bind_eq_some_iff.mp H
                      obtain ⟨⟨t126, t127⟩, A380, H⟩ := H
                      replace H : (if t121 = 0 then (if t123 = 0 then (if t125 = 0 then (if t127 = 0 then ((gf8_Mul.f kj30 t120 a0).bind fun t128 => (if t122 = t128 then ((gf8_Mul.f kj30 t120 t124).bind fun t129 => (if t129 = 1 then (some (t126 == 1)) else (some false))) else (some false))) else (some false)) else (some false)) else (some false)) else (some false)) = some r := H
                      have A38 := Aside0.mk A380
                      clear A380
                      by_cases c39 : t121 = 0
                      · rw [if_pos c39] at H
                        have c39b0 : (t121 == 0) = true := beq_iff_eq.mpr c39
                        have c39b1 : (t121 != 0) = false := bne_eq_false_iff_eq.mpr c39
                        clear c39
                        by_cases c40 : t123 = 0
                        · rw [if_pos c40] at H
                          have c40b0 : (t123 == 0) = true := beq_iff_eq.mpr c40
                          have c40b1 : (t123 != 0) = false := bne_eq_false_iff_eq.mpr c40
                          clear c40
                          by_cases c41 : t125 = 0
                          · rw [if_pos c41] at H
                            have c41b0 : (t125 == 0) = true := beq_iff_eq.mpr c41
                            have c41b1 : (t125 != 0) = false := bne_eq_false_iff_eq.mpr c41
                            clear c41
                            by_cases c42 : t127 = 0
                            · rw [if_pos c42] at H
                              have c42b0 : (t127 == 0) = true := beq_iff_eq.mpr c42
                              have c42b1 : (t127 != 0) = false := bne_eq_false_iff_eq.mpr c42
                              clear c42
                              replace H := Option.bind_eq_some_iff.mp H
                              obtain ⟨t128, A430, H⟩ := H
                              replace H : (if t122 = t128 then ((gf8_Mul.f kj30 t120 t124).bind fun t129 => (if t129 = 1 then (some (t126 == 1)) else (some false))) else (some false)) = some r := H
                              have A43 := Aside0.mk A430
                              clear A430
                              by_cases c44 : t122 = t128
                              · rw [if_pos c44] at H
                                have c44b0 : (t122 == t128) = true := beq_iff_eq.mpr c44
                                have c44b1 : (t122 != t128) = false := bne_eq_false_iff_eq.mpr c44
                                clear c44
                                replace H := Option.bind_eq_some_iff.mp H
                                obtain ⟨t129, A450, H⟩ := H
                                replace H : (if t129 = 1 then (some (t126 == 1)) else (some false)) = some r := H
                                have A45 := Aside0.mk A450
                                clear A450
                                by_cases c46 : t129 = 1
                                · rw [if_pos c46] at H
                                  have c46b0 : (t129 == 1) = true := beq_iff_eq.mpr c46
                                  have c46b1 : (t129 != 1) = false := bne_eq_false_iff_eq.mpr c46
                                  clear c46
                                  obtain rfl := Option.some.inj H
                                  go_wp2_with (first | ((with_reducible refine gate_callee (f := 17) rfl ?_); refine goesL_ (some 107) rfl rfl Try.func17 (by kernel_rfl) rfl #[.int .u8 a0, .int .i64 a2] rfl (by (try simp only [List.map_toArray, List.map_cons, List.map_nil]); first | done | rfl | (simp only [List.length_drop, List.length_take]; rfl)) ?_; (with_reducible refine (gf8_Pow.calls kj30 a0 a2 t120 t121 _ A35.out).mono ?_); rintro e w' ⟨rfl, ⟨nd, rfl⟩⟩; refine ⟨_, rfl, ?_⟩) | ((with_reducible refine gate_callee (f := 17) rfl ?_); refine goesL_ (some 114) rfl rfl Try.func17 (by kernel_rfl) rfl #[.int .u8 a0, .int .i64 (wrap64 (a2 + 1))] rfl (by (try simp only [List.map_toArray, List.map_cons, List.map_nil]); first | done | rfl | (simp only [List.length_drop, List.length_take]; rfl)) ?_; (with_reducible refine (gf8_Pow.calls kj30 a0 (wrap64 (a2 + 1)) t122 t123 _ A36.out).mono ?_); rintro e w' ⟨rfl, ⟨nd, rfl⟩⟩; refine ⟨_, rfl, ?_⟩) | ((with_reducible refine gate_callee (f := 17) rfl ?_); refine goesL_ (some 121) rfl rfl Try.func17 (by kernel_rfl) rfl #[.int .u8 a0, .int .i64 (wrap64 (-a2))] rfl (by (try simp only [List.map_toArray, List.map_cons, List.map_nil]); first | done | rfl | (simp only [List.length_drop, List.length_take]; rfl)) ?_; (with_reducible refine (gf8_Pow.calls kj30 a0 (wrap64 (-a2)) t124 t125 _ A37.out).mono ?_); rintro e w' ⟨rfl, ⟨nd, rfl⟩⟩; refine ⟨_, rfl, ?_⟩) | ((with_reducible refine gate_callee (f := 17) rfl ?_); refine goesL_ (some 126) rfl rfl Try.func17 (by kernel_rfl) rfl #[.int .u8 a0, .int .i64 255] rfl (by (try simp only [List.map_toArray, List.map_cons, List.map_nil]); first | done | rfl | (simp only [List.length_drop, List.length_take]; rfl)) ?_; (with_reducible refine (gf8_Pow.calls kj30 a0 255 t126 t127 _ A38.out).mono ?_); rintro e w' ⟨rfl, ⟨nd, rfl⟩⟩; refine ⟨_, rfl, ?_⟩) | (go_at_call 13; (with_reducible refine (gf8_Mul.calls kj30 t120 a0 t128 _ A43.out).mono ?_); rintro e w' ⟨rfl, ⟨nd, rfl⟩⟩) | (go_at_call 13; (with_reducible refine (gf8_Mul.calls kj30 t120 t124 t129 _ A45.out).mono ?_); rintro e w' ⟨rfl, ⟨nd, rfl⟩⟩))
                                  go_ret
                                  exact ⟨by first | rfl | (simp; done) | (simp [*]; done), by repeat (first | exact Drawn0.refl _ | apply Drawn0.step)⟩
                                · rw [if_neg c46] at H
                                  have c46b0 : (t129 == 1) = false := beq_eq_false_iff_ne.mpr c46
                                  have c46b1 : (t129 != 1) = true := bne_iff_ne.mpr c46
                                  obtain rfl := Option.some.inj H
                                  go_wp2_with (first | ((with_reducible refine gate_callee (f := 17) rfl ?_); refine goesL_ (some 107) rfl rfl Try.func17 (by kernel_rfl) rfl #[.int .u8 a0, .int .i64 a2] rfl (by (try simp only [List.map_toArray, List.map_cons, List.map_nil]); first | done | rfl | (simp only [List.length_drop, List.length_take]; rfl)) ?_; (with_reducible refine (gf8_Pow.calls kj30 a0 a2 t120 t121 _ A35.out).mono ?_); rintro e w' ⟨rfl, ⟨nd, rfl⟩⟩; refine ⟨_, rfl, ?_⟩) | ((with_reducible refine gate_callee (f := 17) rfl ?_); refine goesL_ (some 114) rfl rfl Try.func17 (by kernel_rfl) rfl #[.int .u8 a0, .int .i64 (wrap64 (a2 + 1))] rfl (by (try simp only [List.map_toArray, List.map_cons, List.map_nil]); first | done | rfl | (simp only [List.length_drop, List.length_take]; rfl)) ?_; (with_reducible refine (gf8_Pow.calls kj30 a0 (wrap64 (a2 + 1)) t122 t123 _ A36.out).mono ?_); rintro e w' ⟨rfl, ⟨nd, rfl⟩⟩; refine ⟨_, rfl, ?_⟩) | ((with_reducible refine gate_callee (f := 17) rfl ?_); refine goesL_ (some 121) rfl rfl Try.func17 (by kernel_rfl) rfl #[.int .u8 a0, .int .i64 (wrap64 (-a2))] rfl (by (try simp only [List.map_toArray, List.map_cons, List.map_nil]); first | done | rfl | (simp only [List.length_drop, List.length_take]; rfl)) ?_; (with_reducible refine (gf8_Pow.calls kj30 a0 (wrap64 (-a2)) t124 t125 _ A37.out).mono ?_); rintro e w' ⟨rfl, ⟨nd, rfl⟩⟩; refine ⟨_, rfl, ?_⟩) | ((with_reducible refine gate_callee (f := 17) rfl ?_); refine goesL_ (some 126) rfl rfl Try.func17 (by kernel_rfl) rfl #[.int .u8 a0, .int .i64 255] rfl (by (try simp only [List.map_toArray, List.map_cons, List.map_nil]); first | done | rfl | (simp only [List.length_drop, List.length_take]; rfl)) ?_; (with_reducible refine (gf8_Pow.calls kj30 a0 255 t126 t127 _ A38.out).mono ?_); rintro e w' ⟨rfl, ⟨nd, rfl⟩⟩; refine ⟨_, rfl, ?_⟩) | (go_at_call 13; (with_reducible refine (gf8_Mul.calls kj30 t120 a0 t128 _ A43.out).mono ?_); rintro e w' ⟨rfl, ⟨nd, rfl⟩⟩) | (go_at_call 13; (with_reducible refine (gf8_Mul.calls kj30 t120 t124 t129 _ A45.out).mono ?_); rintro e w' ⟨rfl, ⟨nd, rfl⟩⟩))
                                  go_ret
                                  exact ⟨by first | rfl | (simp; done) | (simp [*]; done), by repeat (first | exact Drawn0.refl _ | apply Drawn0.step)⟩
                              · rw [if_neg c44] at H
                                have c44b0 : (t122 == t128) = false := beq_eq_false_iff_ne.mpr c44
                                have c44b1 : (t122 != t128) = true := bne_iff_ne.mpr c44
                                obtain rfl := Option.some.inj H
                                go_wp2_with (first | ((with_reducible refine gate_callee (f := 17) rfl ?_); refine goesL_ (some 107) rfl rfl Try.func17 (by kernel_rfl) rfl #[.int .u8 a0, .int .i64 a2] rfl (by (try simp only [List.map_toArray, List.map_cons, List.map_nil]); first | done | rfl | (simp only [List.length_drop, List.length_take]; rfl)) ?_; (with_reducible refine (gf8_Pow.calls kj30 a0 a2 t120 t121 _ A35.out).mono ?_); rintro e w' ⟨rfl, ⟨nd, rfl⟩⟩; refine ⟨_, rfl, ?_⟩) | ((with_reducible refine gate_callee (f := 17) rfl ?_); refine goesL_ (some 114) rfl rfl Try.func17 (by kernel_rfl) rfl #[.int .u8 a0, .int .i64 (wrap64 (a2 + 1))] rfl (by (try simp only [List.map_toArray, List.map_cons, List.map_nil]); first | done | rfl | (simp only [List.length_drop, List.length_take]; rfl)) ?_; (with_reducible refine (gf8_Pow.calls kj30 a0 (wrap64 (a2 + 1)) t122 t123 _ A36.out).mono ?_); rintro e w' ⟨rfl, ⟨nd, rfl⟩⟩; refine ⟨_, rfl, ?_⟩) | ((with_reducible refine gate_callee (f := 17) rfl ?_); refine goesL_ (some 121) rfl rfl Try.func17 (by kernel_rfl) rfl #[.int .u8 a0, .int .i64 (wrap64 (-a2))] rfl (by (try simp only [List.map_toArray, List.map_cons, List.map_nil]); first | done | rfl | (simp only [List.length_drop, List.length_take]; rfl)) ?_; (with_reducible refine (gf8_Pow.calls kj30 a0 (wrap64 (-a2)) t124 t125 _ A37.out).mono ?_); rintro e w' ⟨rfl, ⟨nd, rfl⟩⟩; refine ⟨_, rfl, ?_⟩) | ((with_reducible refine gate_callee (f := 17) rfl ?_); refine goesL_ (some 126) rfl rfl Try.func17 (by kernel_rfl) rfl #[.int .u8 a0, .int .i64 255] rfl (by (try simp only [List.map_toArray, List.map_cons, List.map_nil]); first | done | rfl | (simp only [List.length_drop, List.length_take]; rfl)) ?_; (with_reducible refine (gf8_Pow.calls kj30 a0 255 t126 t127 _ A38.out).mono ?_); rintro e w' ⟨rfl, ⟨nd, rfl⟩⟩; refine ⟨_, rfl, ?_⟩) | (go_at_call 13; (with_reducible refine (gf8_Mul.calls kj30 t120 a0 t128 _ A43.out).mono ?_); rintro e w' ⟨rfl, ⟨nd, rfl⟩⟩))
                                go_ret
                                exact ⟨by first | rfl | (simp; done) | (simp [*]; done), by repeat (first | exact Drawn0.refl _ | apply Drawn0.step)⟩
                            · rw [if_neg c42] at H
                              have c42b0 : (t127 == 0) = false := beq_eq_false_iff_ne.mpr c42
                              have c42b1 : (t127 != 0) = true := bne_iff_ne.mpr c42
                              obtain rfl := Option.some.inj H
                              go_wp2_with (first | ((with_reducible refine gate_callee (f := 17) rfl ?_); refine goesL_ (some 107) rfl rfl Try.func17 (by kernel_rfl) rfl #[.int .u8 a0, .int .i64 a2] rfl (by (try simp only [List.map_toArray, List.map_cons, List.map_nil]); first | done | rfl | (simp only [List.length_drop, List.length_take]; rfl)) ?_; (with_reducible refine (gf8_Pow.calls kj30 a0 a2 t120 t121 _ A35.out).mono ?_); rintro e w' ⟨rfl, ⟨nd, rfl⟩⟩; refine ⟨_, rfl, ?_⟩) | ((with_reducible refine gate_callee (f := 17) rfl ?_); refine goesL_ (some 114) rfl rfl Try.func17 (by kernel_rfl) rfl #[.int .u8 a0, .int .i64 (wrap64 (a2 + 1))] rfl (by (try simp only [List.map_toArray, List.map_cons, List.map_nil]); first | done | rfl | (simp only [List.length_drop, List.length_take]; rfl)) ?_; (with_reducible refine (gf8_Pow.calls kj30 a0 (wrap64 (a2 + 1)) t122 t123 _ A36.out).mono ?_); rintro e w' ⟨rfl, ⟨nd, rfl⟩⟩; refine ⟨_, rfl, ?_⟩) | ((with_reducible refine gate_callee (f := 17) rfl ?_); refine goesL_ (some 121) rfl rfl Try.func17 (by kernel_rfl) rfl #[.int .u8 a0, .int .i64 (wrap64 (-a2))] rfl (by (try simp only [List.map_toArray, List.map_cons, List.map_nil]); first | done | rfl | (simp only [List.length_drop, List.length_take]; rfl)) ?_; (with_reducible refine (gf8_Pow.calls kj30 a0 (wrap64 (-a2)) t124 t125 _ A37.out).mono ?_); rintro e w' ⟨rfl, ⟨nd, rfl⟩⟩; refine ⟨_, rfl, ?_⟩) | ((with_reducible refine gate_callee (f := 17) rfl ?_); refine goesL_ (some 126) rfl rfl Try.func17 (by kernel_rfl) rfl #[.int .u8 a0, .int .i64 255] rfl (by (try simp only [List.map_toArray, List.map_cons, List.map_nil]); first | done | rfl | (simp only [List.length_drop, List.length_take]; rfl)) ?_; (with_reducible refine (gf8_Pow.calls kj30 a0 255 t126 t127 _ A38.out).mono ?_); rintro e w' ⟨rfl, ⟨nd, rfl⟩⟩; refine ⟨_, rfl, ?_⟩))
                              go_ret
                              exact ⟨by first | rfl | (simp; done) | (simp [*]; done), by repeat (first | exact Drawn0.refl _ | apply Drawn0.step)⟩
                          · rw [if_neg c41] at H
                            have c41b0 : (t125 == 0) = false := beq_eq_false_iff_ne.mpr c41
                            have c41b1 : (t125 != 0) = true := bne_iff_ne.mpr c41
                            obtain rfl := Option.some.inj H
                            go_wp2_with (first | ((with_reducible refine gate_callee (f := 17) rfl ?_); refine goesL_ (some 107) rfl rfl Try.func17 (by kernel_rfl) rfl #[.int .u8 a0, .int .i64 a2] rfl (by (try simp only [List.map_toArray, List.map_cons, List.map_nil]); first | done | rfl | (simp only [List.length_drop, List.length_take]; rfl)) ?_; (with_reducible refine (gf8_Pow.calls kj30 a0 a2 t120 t121 _ A35.out).mono ?_); rintro e w' ⟨rfl, ⟨nd, rfl⟩⟩; refine ⟨_, rfl, ?_⟩) | ((with_reducible refine gate_callee (f := 17) rfl ?_); refine goesL_ (some 114) rfl rfl Try.func17 (by kernel_rfl) rfl #[.int .u8 a0, .int .i64 (wrap64 (a2 + 1))] rfl (by (try simp only [List.map_toArray, List.map_cons, List.map_nil]); first | done | rfl | (simp only [List.length_drop, List.length_take]; rfl)) ?_; (with_reducible refine (gf8_Pow.calls kj30 a0 (wrap64 (a2 + 1)) t122 t123 _ A36.out).mono ?_); rintro e w' ⟨rfl, ⟨nd, rfl⟩⟩; refine ⟨_, rfl, ?_⟩) | ((with_reducible refine gate_callee (f := 17) rfl ?_); refine goesL_ (some 121) rfl rfl Try.func17 (by kernel_rfl) rfl #[.int .u8 a0, .int .i64 (wrap64 (-a2))] rfl (by (try simp only [List.map_toArray, List.map_cons, List.map_nil]); first | done | rfl | (simp only [List.length_drop, List.length_take]; rfl)) ?_; (with_reducible refine (gf8_Pow.calls kj30 a0 (wrap64 (-a2)) t124 t125 _ A37.out).mono ?_); rintro e w' ⟨rfl, ⟨nd, rfl⟩⟩; refine ⟨_, rfl, ?_⟩) | ((with_reducible refine gate_callee (f := 17) rfl ?_); refine goesL_ (some 126) rfl rfl Try.func17 (by kernel_rfl) rfl #[.int .u8 a0, .int .i64 255] rfl (by (try simp only [List.map_toArray, List.map_cons, List.map_nil]); first | done | rfl | (simp only [List.length_drop, List.length_take]; rfl)) ?_; (with_reducible refine (gf8_Pow.calls kj30 a0 255 t126 t127 _ A38.out).mono ?_); rintro e w' ⟨rfl, ⟨nd, rfl⟩⟩; refine ⟨_, rfl, ?_⟩))
                            go_ret
                            exact ⟨by first | rfl | (simp; done) | (simp [*]; done), by repeat (first | exact Drawn0.refl _ | apply Drawn0.step)⟩
                        · rw [if_neg c40] at H
                          have c40b0 : (t123 == 0) = false := beq_eq_false_iff_ne.mpr c40
                          have c40b1 : (t123 != 0) = true := bne_iff_ne.mpr c40
                          obtain rfl := Option.some.inj H
                          go_wp2_with (first | ((with_reducible refine gate_callee (f := 17) rfl ?_); refine goesL_ (some 107) rfl rfl Try.func17 (by kernel_rfl) rfl #[.int .u8 a0, .int .i64 a2] rfl (by (try simp only [List.map_toArray, List.map_cons, List.map_nil]); first | done | rfl | (simp only [List.length_drop, List.length_take]; rfl)) ?_; (with_reducible refine (gf8_Pow.calls kj30 a0 a2 t120 t121 _ A35.out).mono ?_); rintro e w' ⟨rfl, ⟨nd, rfl⟩⟩; refine ⟨_, rfl, ?_⟩) | ((with_reducible refine gate_callee (f := 17) rfl ?_); refine goesL_ (some 114) rfl rfl Try.func17 (by kernel_rfl) rfl #[.int .u8 a0, .int .i64 (wrap64 (a2 + 1))] rfl (by (try simp only [List.map_toArray, List.map_cons, List.map_nil]); first | done | rfl | (simp only [List.length_drop, List.length_take]; rfl)) ?_; (with_reducible refine (gf8_Pow.calls kj30 a0 (wrap64 (a2 + 1)) t122 t123 _ A36.out).mono ?_); rintro e w' ⟨rfl, ⟨nd, rfl⟩⟩; refine ⟨_, rfl, ?_⟩) | ((with_reducible refine gate_callee (f := 17) rfl ?_); refine goesL_ (some 121) rfl rfl Try.func17 (by kernel_rfl) rfl #[.int .u8 a0, .int .i64 (wrap64 (-a2))] rfl (by (try simp only [List.map_toArray, List.map_cons, List.map_nil]); first | done | rfl | (simp only [List.length_drop, List.length_take]; rfl)) ?_; (with_reducible refine (gf8_Pow.calls kj30 a0 (wrap64 (-a2)) t124 t125 _ A37.out).mono ?_); rintro e w' ⟨rfl, ⟨nd, rfl⟩⟩; refine ⟨_, rfl, ?_⟩) | ((with_reducible refine gate_callee (f := 17) rfl ?_); refine goesL_ (some 126) rfl rfl Try.func17 (by kernel_rfl) rfl #[.int .u8 a0, .int .i64 255] rfl (by (try simp only [List.map_toArray, List.map_cons, List.map_nil]); first | done | rfl | (simp only [List.length_drop, List.length_take]; rfl)) ?_; (with_reducible refine (gf8_Pow.calls kj30 a0 255 t126 t127 _ A38.out).mono ?_); rintro e w' ⟨rfl, ⟨nd, rfl⟩⟩; refine ⟨_, rfl, ?_⟩))
                          go_ret
                          exact ⟨by first | rfl | (simp; done) | (simp [*]; done), by repeat (first | exact Drawn0.refl _ | apply Drawn0.step)⟩
                      · rw [if_neg c39] at H
                        have c39b0 : (t121 == 0) = false := beq_eq_false_iff_ne.mpr c39
                        have c39b1 : (t121 != 0) = true := bne_iff_ne.mpr c39
                        obtain rfl := Option.some.inj H
                        go_wp2_with (first | ((with_reducible refine gate_callee (f := 17) rfl ?_); refine goesL_ (some 107) rfl rfl Try.func17 (by kernel_rfl) rfl #[.int .u8 a0, .int .i64 a2] rfl (by (try simp only [List.map_toArray, List.map_cons, List.map_nil]); first | done | rfl | (simp only [List.length_drop, List.length_take]; rfl)) ?_; (with_reducible refine (gf8_Pow.calls kj30 a0 a2 t120 t121 _ A35.out).mono ?_); rintro e w' ⟨rfl, ⟨nd, rfl⟩⟩; refine ⟨_, rfl, ?_⟩) | ((with_reducible refine gate_callee (f := 17) rfl ?_); refine goesL_ (some 114) rfl rfl Try.func17 (by kernel_rfl) rfl #[.int .u8 a0, .int .i64 (wrap64 (a2 + 1))] rfl (by (try simp only [List.map_toArray, List.map_cons, List.map_nil]); first | done | rfl | (simp only [List.length_drop, List.length_take]; rfl)) ?_; (with_reducible refine (gf8_Pow.calls kj30 a0 (wrap64 (a2 + 1)) t122 t123 _ A36.out).mono ?_); rintro e w' ⟨rfl, ⟨nd, rfl⟩⟩; refine ⟨_, rfl, ?_⟩) | ((with_reducible refine gate_callee (f := 17) rfl ?_); refine goesL_ (some 121) rfl rfl Try.func17 (by kernel_rfl) rfl #[.int .u8 a0, .int .i64 (wrap64 (-a2))] rfl (by (try simp only [List.map_toArray, List.map_cons, List.map_nil]); first | done | rfl | (simp only [List.length_drop, List.length_take]; rfl)) ?_; (with_reducible refine (gf8_Pow.calls kj30 a0 (wrap64 (-a2)) t124 t125 _ A37.out).mono ?_); rintro e w' ⟨rfl, ⟨nd, rfl⟩⟩; refine ⟨_, rfl, ?_⟩) | ((with_reducible refine gate_callee (f := 17) rfl ?_); refine goesL_ (some 126) rfl rfl Try.func17 (by kernel_rfl) rfl #[.int .u8 a0, .int .i64 255] rfl (by (try simp only [List.map_toArray, List.map_cons, List.map_nil]); first | done | rfl | (simp only [List.length_drop, List.length_take]; rfl)) ?_; (with_reducible refine (gf8_Pow.calls kj30 a0 255 t126 t127 _ A38.out).mono ?_); rintro e w' ⟨rfl, ⟨nd, rfl⟩⟩; refine ⟨_, rfl, ?_⟩))
                        go_ret
                        exact ⟨by first | rfl | (simp; done) | (simp [*]; done), by repeat (first | exact Drawn0.refl _ | apply Drawn0.step)⟩
  · replace c5 := Bool.eq_false_iff.mpr c5
    subst c5
    have H1 : (some false) = some r := by rw [if_neg (show ¬ (false = true) by decide)] at H; exact H
    clear H
    have H := H1
    clear H1
    obtain rfl := Option.some.inj H
    go_enter Try.func6, Try.ntmps6
    go_wp2_with (first | ((with_reducible refine gate_callee (f := 12) rfl ?_); refine goesL_ (some 19) rfl rfl Try.func12 (by kernel_rfl) rfl #[] rfl (by (try simp only [List.map_toArray, List.map_cons, List.map_nil]); first | done | rfl | (simp only [List.length_drop, List.length_take]; rfl)) ?_; (with_reducible refine (culletlaw02_awake.calls k  false _ A4.out).mono ?_); rintro e w' ⟨rfl, ⟨nd, rfl⟩⟩; refine ⟨_, rfl, ?_⟩))
    go_ret
    exact ⟨by first | rfl | (simp; done) | (simp [*]; done), by repeat (first | exact Drawn0.refl _ | apply Drawn0.step)⟩

/-- THE ONE PURE STATEMENT of culletlaw02_Gf8Sums: yours. -/
def culletlaw02_Gf8Sums.Pure : Prop := ∀ (a0 : Int) (a1 : Int) (a2 : Int), (Lit.int .u8 a0).wf = true → (Lit.int .u8 a1).wf = true → (Lit.int .i64 a2).wf = true → ∃ k, culletlaw02_Gf8Sums.f k a0 a1 a2 = some true
theorem culletlaw02_Gf8Sums.walk (P : culletlaw02_Gf8Sums.Pure) (a0 : Int) (a1 : Int) (a2 : Int) (w : World) (w0 : (Lit.int .u8 a0).wf = true) (w1 : (Lit.int .u8 a1).wf = true) (w2 : (Lit.int .i64 a2).wf = true) :
    Calls Try.prog 6 #[.int .u8 a0, .int .u8 a1, .int .i64 a2] w fun e w' => e = .returned (.bool true) ∧ Below w.heap.size w w' := by
  obtain ⟨k, h⟩ := P a0 a1 a2 w0 w1 w2
  refine (culletlaw02_Gf8Sums.calls k a0 a1 a2 true w h).mono ?_
  rintro e w' ⟨rfl, hd⟩
  exact ⟨rfl, hd.below⟩

end Go.Proofs.Ytcjbiepdggibaaa.PGf8Sums
