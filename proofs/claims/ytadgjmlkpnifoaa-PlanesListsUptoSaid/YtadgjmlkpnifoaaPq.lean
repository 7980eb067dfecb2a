/- Layer 8 (planes): the inner functions' contracts. -/
import Derived.Test.YtadgjmlkpnifoaaRg
import Derived.Test.YtadgjmlkpnifoaaOb
import Derived.Test.YtadgjmlkpnifoaaGr
import Derived.Test.YtadgjmlkpnifoaaQt
namespace Go.Proofs.Ytadgjmlkpnifoaa.Pq
set_option linter.unusedSimpArgs false
set_option linter.unusedVariables false
open Go Go.RowKit Go.Proofs.Ytadgjmlkpnifoaa Go.Proofs.Ytadgjmlkpnifoaa.Mm Go.Proofs.Ytadgjmlkpnifoaa.Gh Go.Proofs.Ytadgjmlkpnifoaa.Wr Go.Proofs.Ytadgjmlkpnifoaa.St

/-- The entry at place k of the four quarters of c, one behind the other. -/
def qf (c k : Nat) : Nat := gm c (k % 16 * 16 ^ (k / 16))
def qL (c : Nat) : List Nat := (List.range 64).map (qf c)
theorem qL_length (c : Nat) : (qL c).length = 64 := by simp [qL]
theorem qL_get {c k : Nat} (h : k < 64) : (qL c).getD k 0 = qf c k := by simp [qL, h]
theorem qf_lt {c : Nat} (hc : c < 65536) (k : Nat) : qf c k < 65536 := gm_lt _ hc
/-- The block of the quarters. -/
abbrev QAt (w : World) (b c : Nat) : Prop := Blk w b 66 (row .u16 (qL c))

theorem and15 {x : Int} (h0 : 0 ≤ x) (h1 : x < 65536) : Go.bits .and .u16 x 15 = x % 16 := by
  obtain ⟨x, rfl⟩ := Int.eq_ofNat_of_zero_le h0
  have h := Bt.and16 (a := x) (b := 15) (by omega) (by decide)
  have e : x &&& 15 = x % 16 := Nat.and_two_pow_sub_one_eq_mod x 4
  rw [e] at h
  simpa using h

theorem word_calls (x y : Int) (w : World) (hx0 : 0 ≤ x) (hx : x < 256) (hy0 : 0 ≤ y) (hy : y < 256) :
    Calls Try.prog 36 #[.int .u8 x, .int .u8 y] w fun e w' => e = .returned (.int .u16 (x + 256 * y)) ∧ w = w' := by
  obtain ⟨x, rfl⟩ := Int.eq_ofNat_of_zero_le hx0
  obtain ⟨y, rfl⟩ := Int.eq_ofNat_of_zero_le hy0
  have e : Go.bits .or .u16 (x : Int) ((y : Int) * 256) = (x : Int) + 256 * (y : Int) := by
    have h1 := Bt.or16 (a := x) (b := 256 * y) (by omega) (by omega)
    have h2 := Nat.two_pow_add_eq_or_of_lt (b := x) (i := 8) (by omega) y
    rw [Nat.or_comm] at h2
    have h3 : x ||| 256 * y = x + 256 * y := by rw [show (256 : Nat) = 2 ^ 8 from rfl, ← h2]; omega
    rw [h3] at h1
    rw [Int.mul_comm]
    simpa using h1
  go_enter Try.func36, Try.ntmps36
  go_wp2_with fail
  go_ret
  exact ⟨rfl, rfl⟩

theorem row_sum {b l n : Nat} (hb : b = 1 ∨ b = 2 ∨ b = 4 ∨ b = 8) (hl : l < b) (hn : n < 4) : (b * 16 ^ n) ^^^ (l * 16 ^ n) = (b + l) * 16 ^ n := by
  have h : ∀ n : Fin 4, ∀ b : Fin 9, ∀ l : Fin 8, (b.val = 1 ∨ b.val = 2 ∨ b.val = 4 ∨ b.val = 8) → l.val < b.val → (b.val * 16 ^ n.val) ^^^ (l.val * 16 ^ n.val) = (b.val + l.val) * 16 ^ n.val := by decide +kernel
  exact h ⟨n, hn⟩ ⟨b, by omega⟩ ⟨l, by omega⟩ hb hl

theorem quad_sum {x : Nat} (hx : x < 65536) : ((x % 16 ^^^ (x / 16 % 16 * 16)) ^^^ (x / 256 % 16 * 256)) ^^^ (x / 4096 * 4096) = x := by
  refine linear_ext (f := fun x => ((x % 16 ^^^ (x / 16 % 16 * 16)) ^^^ (x / 256 % 16 * 256)) ^^^ (x / 4096 * 4096)) (g := fun x => x) (fun a b _ _ => ?_) (fun _ _ _ _ => rfl) (fun i => ?_) x hx
  · show (((a ^^^ b) % 16 ^^^ ((a ^^^ b) / 16 % 16 * 16)) ^^^ ((a ^^^ b) / 256 % 16 * 256)) ^^^ ((a ^^^ b) / 4096 * 4096) = _
    apply Nat.eq_of_testBit_eq
    intro j
    have e16 : (16 : Nat) = 2 ^ 4 := rfl
    have e256 : (256 : Nat) = 2 ^ 8 := rfl
    have e4096 : (4096 : Nat) = 2 ^ 12 := rfl
    simp only [e16, e256, e4096, Nat.testBit_xor, Nat.testBit_mod_two_pow, Nat.testBit_mul_two_pow, Nat.testBit_div_two_pow]
    by_cases h1 : j < 4 <;> by_cases h2 : 4 ≤ j <;> by_cases h3 : 8 ≤ j <;> by_cases h4 : 12 ≤ j <;> by_cases h5 : j - 4 < 4 <;> by_cases h6 : j - 8 < 4 <;> simp [h1, h2, h3, h4, h5, h6] <;> (cases a.testBit _ <;> cases b.testBit _ <;> rfl)
  · revert i
    decide +kernel
/-- A product out of the four quarters. -/
theorem quarters_sum {c x : Nat} (hx : x < 65536) : ((qf c (x % 16) ^^^ qf c (16 + x / 16 % 16)) ^^^ qf c (32 + x / 256 % 16)) ^^^ qf c (48 + x / 4096) = gm c x := by
  have e0 : qf c (x % 16) = gm c (x % 16) := by unfold qf; congr 1; rw [show x % 16 % 16 = x % 16 by omega, show x % 16 / 16 = 0 by omega]; omega
  have e1 : qf c (16 + x / 16 % 16) = gm c (x / 16 % 16 * 16) := by unfold qf; congr 1; rw [show (16 + x / 16 % 16) % 16 = x / 16 % 16 by omega, show (16 + x / 16 % 16) / 16 = 1 by omega]
  have e2 : qf c (32 + x / 256 % 16) = gm c (x / 256 % 16 * 256) := by unfold qf; congr 1; rw [show (32 + x / 256 % 16) % 16 = x / 256 % 16 by omega, show (32 + x / 256 % 16) / 16 = 2 by omega]
  have e3 : qf c (48 + x / 4096) = gm c (x / 4096 * 4096) := by unfold qf; congr 1; rw [show (48 + x / 4096) % 16 = x / 4096 by omega, show (48 + x / 4096) / 16 = 3 by omega]
  rw [e0, e1, e2, e3, ← gm_right, ← gm_right, ← gm_right, quad_sum hx]

set_option maxRecDepth 100000 in
set_option maxHeartbeats 2000000 in
theorem times_calls (b c x : Nat) (w : World) (hq : QAt w b c) (hc : c < 65536) (hx : x < 65536) :
    Calls Try.prog 35 #[.pointer (some ⟨b, 0, none⟩), .int .u16 (x : Int)] w fun e w' => e = .returned (.int .u16 ((gm c x : Nat) : Int)) ∧ ∃ n, w' = w.drewN n := by
  have m0 := hq.cellRow (i := x % 16) (by rw [qL_length]; omega)
  have m1 := hq.cellRow (i := 16 + x / 16 % 16) (by rw [qL_length]; omega)
  have m2 := hq.cellRow (i := 32 + x / 256 % 16) (by rw [qL_length]; omega)
  have m3 := hq.cellRow (i := 48 + x / 4096) (by rw [qL_length]; omega)
  rw [qL_get (by omega)] at m0 m1 m2 m3
  have h0 := qf_lt hc (x % 16)
  have h1 := qf_lt hc (16 + x / 16 % 16)
  have h2 := qf_lt hc (32 + x / 256 % 16)
  have h3 := qf_lt hc (48 + x / 4096)
  have HS := Lib.hid (quarters_sum (c := c) hx)
  generalize qf c (x % 16) = y0 at *
  generalize qf c (16 + x / 16 % 16) = y1 at *
  generalize qf c (32 + x / 256 % 16) = y2 at *
  generalize qf c (48 + x / 4096) = y3 at *
  go_enter Try.func35, Try.ntmps35
  go_wp2_with fail
  have a0 : Go.bits .and .u16 (x : Int) 15 = (x : Int) % 16 := and15 (by omega) (by omega)
  have a1 : Go.bits .and .u16 ((x : Int) / 16) 15 = (x : Int) / 16 % 16 := and15 (by omega) (by omega)
  have a2 : Go.bits .and .u16 ((x : Int) / 256) 15 = (x : Int) / 256 % 16 := and15 (by omega) (by omega)
  have s01 : 0 ≤ (x : Int) % 16 := by omega
  have s02 : (x : Int) % 16 < 16 := by omega
  have s03 : ((x : Int) % 16).toNat = x % 16 := by omega
  have s11 : 0 ≤ (x : Int) / 16 % 16 := by omega
  have s12 : (x : Int) / 16 % 16 < 16 := by omega
  have s13 : ((x : Int) / 16 % 16).toNat = x / 16 % 16 := by omega
  have s21 : 0 ≤ (x : Int) / 256 % 16 := by omega
  have s22 : (x : Int) / 256 % 16 < 16 := by omega
  have s23 : ((x : Int) / 256 % 16).toNat = x / 256 % 16 := by omega
  have s31 : 0 ≤ (x : Int) / 4096 := by omega
  have s32 : (x : Int) / 4096 < 16 := by omega
  have s33 : ((x : Int) / 4096).toNat = x / 4096 := by omega
  have x1 : Go.bits .xor .u16 (y0 : Int) (y1 : Int) = ((y0 ^^^ y1 : Nat) : Int) := Bt.xor16 h0 h1
  have x2 : Go.bits .xor .u16 ((y0 ^^^ y1 : Nat) : Int) (y2 : Int) = ((y0 ^^^ y1 ^^^ y2 : Nat) : Int) := Bt.xor16 (xor_lt h0 h1) h2
  have x3 : Go.bits .xor .u16 ((y0 ^^^ y1 ^^^ y2 : Nat) : Int) (y3 : Int) = ((gm c x : Nat) : Int) := by rw [← HS.out]; exact Bt.xor16 (xor_lt (xor_lt h0 h1) h2) h3
  go_quiet (fail)
  clear a0 a1 a2 s03 s13 s23 s33 x1 x2 x3
  go_wp2_with fail
  go_ret
  exact ⟨rfl, _, rfl⟩

/-- The quarters' entries, filled up to place k. -/
def qq (c k : Nat) : List Nat := fill (qf c) 64 k
theorem qq_length (c k : Nat) : (qq c k).length = 64 := fill_length _ _ _
theorem qq_get {c k i : Nat} (hi : i < k) (h : i < 64) : (qq c k).getD i 0 = qf c i := by simp [qq, fill, h, hi]
theorem qq_step {c k : Nat} (h : k < 64) : (qq c k).set k (qf c k) = qq c (k + 1) := fill_step h
theorem qq_skip {c k : Nat} (h : qf c k = 0) : qq c k = qq c (k + 1) := by
  unfold qq fill
  apply List.map_congr_left
  intro i _
  by_cases h1 : i < k
  · rw [if_pos h1, if_pos (by omega)]
  · rw [if_neg h1]
    by_cases h2 : i = k
    · rw [if_pos (by omega), h2, h]
    · rw [if_neg (by omega)]
theorem qf_zero (c n : Nat) : qf c (16 * n) = 0 := by
  unfold qf; rw [show 16 * n % 16 = 0 by omega, Nat.zero_mul, gm_zero_right]
theorem qf_at {c n k : Nat} (hk : k < 16) : qf c (16 * n + k) = gm c (k * 16 ^ n) := by
  unfold qf; rw [show (16 * n + k) % 16 = k by omega, show (16 * n + k) / 16 = n by omega]
theorem qq_zero (c : Nat) : row .u16 (zs 64) = row .u16 (qq c 0) := by unfold qq; rw [fill_zero]; rfl

set_option maxRecDepth 100000 in
set_option maxHeartbeats 4000000 in
theorem of_calls (c : Nat) (w : World) (hc : c < 65536) :
    Calls Try.prog 34 #[.int .u16 (c : Int)] w fun e w' => ∃ b, e = .returned (.pointer (some ⟨b, 0, none⟩)) ∧ St w w' [] [⟨b, 66, row .u16 (qL c)⟩] := by
  have S0 := Lib.hid (St.start w)
  go_enter Try.func34, Try.ntmps34
  go_wp2_with ((with_reducible refine at_slot (N := 9) rfl ?_); refine box_law rfl _ _ (row .u16 (zs 64)) rfl (by kernel_rfl) S0.out ?_; intro b w1 h1; rw [qq_zero c] at h1; (try simp only [World.size_alloc, List.nil_append, List.cons_append, List.append_eq] at h1); have S1 := Lib.hid h1; clear h1 S0)
  have H1 := S1
  clear S1
  go_wp2_with fail
  go_loopw [10] (fun vn wr => ∃ n : Nat, n ≤ 4 ∧ vn = .int .i64 n ∧ St w wr [] [⟨b, 66, row .u16 (qq c (16 * n))⟩]) (fun vn _ => 4 - (intOf vn).toNat)
  case atStart => exact ⟨0, by omega, rfl, H1.out⟩
  case round =>
    clear H1
    obtain ⟨n, hn, rfl, hs⟩ := hrel
    have S2 := Lib.hid hs; clear hs
    by_cases hlt : n < 4
    · rw [qq_skip (qf_zero c n)] at S2
      have d1 : decide ((n : Int) < 4) = true := by simp; omega
      go_wp2_with fail
      go_loopw [5] (fun vb wq => ∃ B : Nat, (B = 1 ∨ B = 2 ∨ B = 4 ∨ B = 8 ∨ B = 16) ∧ vb = .int .i64 B ∧ St w wq [] [⟨b, 66, row .u16 (qq c (16 * n + B))⟩]) (fun vb _ => 16 - (intOf vb).toNat)
      case atStart => exact ⟨1, .inl rfl, rfl, S2.out⟩
      case round =>
        clear S2
        obtain ⟨B, hB, rfl, hs⟩ := hrel
        have S3 := Lib.hid hs; clear hs
        have HB := Lib.hid hB
        have hB16 : B ≤ 16 := by omega
        clear hB
        by_cases hb : B < 16
        · have hp : B * 16 ^ n < 65536 := by
            have h1 : 16 ^ n ≤ 16 ^ 3 := Nat.pow_le_pow_right (by decide) (by omega)
            have h2 := Nat.mul_le_mul (show B ≤ 15 by omega) h1
            omega
          have hcv : (B : Int) % 65536 = (B : Int) := by omega
          obtain ⟨M, HM⟩ : ∃ M, Hid (B * 16 ^ n = M) := ⟨_, Lib.hid rfl⟩
          rw [HM.out] at hp
          have hsh : IntKind.u16.wrap ((B : Int) * 2 ^ (4 * n)) = (M : Int) := by
            have e16 : (2 : Int) ^ (4 * n) = 16 ^ n := by rw [Int.pow_mul]; rfl
            have ec : (B : Int) * 16 ^ n = ((B * 16 ^ n : Nat) : Int) := by simp
            rw [e16, ec, HM.out]; exact Bt.wrap_u16 _ (by omega) (by omega)
          have hsh2 : ((B : Int) * 2 ^ (4 * n)) % 65536 = (M : Int) := by
            have := hsh; rw [IntKind.wrap_u16] at this; exact this
          go_wp2_with fail
          refine (Rg.gmul_calls _ _ _ hc hp).mono ?_
          rintro e _ ⟨rfl, rfl⟩
          clear hsh hsh2
          have d2 : decide ((B : Int) < 16) = true := by simp; omega
          have hpl := gm_lt M hc
          have HP : Hid (∀ l, l < B → gm c M ^^^ qf c (16 * n + l) = qf c (16 * n + B + l)) := Lib.hid (fun l hl => by
            have hB4 : B = 1 ∨ B = 2 ∨ B = 4 ∨ B = 8 := by rcases HB.out with h | h | h | h | h <;> omega
            rw [qf_at (by omega), Nat.add_assoc, qf_at (by omega), ← HM.out, ← gm_right, row_sum hB4 hl hlt])
          generalize gm c M = p at *
          go_wp2_with fail
          go_loopw [25] (fun vl wz => ∃ l : Nat, l ≤ B ∧ vl = .int .i64 l ∧ St w wz [] [⟨b, 66, row .u16 (qq c (16 * n + B + l))⟩]) (fun vl _ => B - (intOf vl).toNat)
          case atStart => exact ⟨0, by omega, rfl, S3.out⟩
          case round =>
            clear S3
            obtain ⟨l, hl, rfl, hs⟩ := hrel
            have S4 := Lib.hid hs; clear hs
            by_cases hlb : l < B
            · have hbl : B + l < 16 := by rcases HB.out with h | h | h | h | h <;> omega
              have m1 := (S4.out.blk mem0).cellRow (i := 16 * n + l) (by rw [qq_length]; omega)
              rw [qq_get (by omega) (by omega)] at m1
              have m2 := (S4.out.blk mem0).cellRow (i := n * 16 + (B + l)) (by rw [qq_length]; omega)
              have f2 := (S4.out.blk mem0).free (i := n * 16 + (B + l))
              generalize (qq c (16 * n + B + l)).getD (n * 16 + (B + l)) 0 = z at *
              have hv := HP.out l hlb
              have HV := Lib.hid hv
              have hql := qf_lt hc (16 * n + l)
              obtain ⟨y, HY⟩ : ∃ y, Hid (qf c (16 * n + l) = y) := ⟨_, Lib.hid rfl⟩
              rw [HY.out] at m1 hql HV
              clear hv
              have ex : Go.bits .xor .u16 (p : Int) (y : Int) = ((p ^^^ y : Nat) : Int) := Bt.xor16 hpl hql
              have l0 : (B : Int) + (l : Int) < 16 := by omega
              rw [Nat.mul_comm 16 n] at m1
              have l1 : (l : Int) < 16 := by omega
              have n4 : (n : Int) < 4 := by omega
              have n0 : (0 : Int) ≤ (n : Int) := by omega
              have i0 : (0 : Int) ≤ (l : Int) := by omega
              have l2 : l < 16 := by omega
              have l3 : ((B : Int) + (l : Int)).toNat = B + l := by omega
              have l4 : (0 : Int) ≤ (B : Int) + (l : Int) := by omega
              have l5 : IntKind.i64.wrap ((B : Int) + (l : Int)) = (B : Int) + (l : Int) := IntWalk.i64_in _ (by omega)
              go_wp2_with fail
              refine Qt.quiet_tail 17 (by kernel_rfl) (by kernel_rfl) ?_
              simp only [List.take_succ_cons, List.take_zero, List.drop_succ_cons, List.drop_zero]
              repeat (quiet_step (fail))
              refine wpQuiet_nil ?_
              rintro _ ⟨nq, rfl⟩
              go_wp2_with fail
              have S5 := Lib.hid ((S4.out.drewN (n := nq)).setRow (N1 := []) (n * 16 + (B + l)) (p ^^^ y))
              rw [HV.out, show n * 16 + (B + l) = 16 * n + B + l by omega, qq_step (by omega)] at S5
              refine ⟨⟨l + 1, by omega, by simp, ?_⟩, ?_⟩
              · rw [HV.out, show n * 16 + (B + l) = 16 * n + B + l by omega]
                exact S5.out
              · simp [intOf]; omega
            · obtain rfl : l = B := by omega
              rw [Nat.add_assoc] at S4
              go_wp2_with fail
              refine ⟨⟨2 * l, by rcases HB.out with h | h | h | h | h <;> omega, by simp; omega, ?_⟩, ?_⟩
              · rw [show 2 * l = l + l by omega]; exact S4.out
              · simp [intOf]; rcases HB.out with h | h | h | h | h <;> omega
        · obtain rfl : B = 16 := by omega
          go_wp2_with fail
          refine ⟨⟨n + 1, by omega, by simp, S3.out⟩, ?_⟩
          simp [intOf]
          try omega
    · obtain rfl : n = 4 := by omega
      go_wp2_with fail
      go_ret
      refine ⟨b, rfl, ?_⟩
      have := S2.out
      unfold qq at this
      rw [fill_done] at this
      exact this

end Go.Proofs.Ytadgjmlkpnifoaa.Pq
