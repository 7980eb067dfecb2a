/- The laws Gf8Agree and Gf8Cycle of layer 2: their walks. -/
import Derived.Test.YtcjbiepdggibaaaL3
namespace Go.Proofs.Ytcjbiepdggibaaa.L2
open Go Go.RowKit Go.Proofs.Ytcjbiepdggibaaa Go.Proofs.Ytcjbiepdggibaaa.Mm Go.Proofs.Ytcjbiepdggibaaa.Gf Go.Proofs.Ytcjbiepdggibaaa.G8 Go.Proofs.Ytcjbiepdggibaaa.Tb

set_option maxHeartbeats 1000000 in
theorem twice_calls (a : Nat) (w : World) (ha : a < 256) :
    Calls Try.prog 14 #[.int .u8 a] w fun e w' => e = .returned (.int .u8 ((xt a : Nat) : Int)) ∧ w = w' := by
  have hx := xt_lt ha
  by_cases h : a < 128
  · have h1 : Hid (xt a = 2 * a) := if_pos h
    go_enter Try.func14, Try.ntmps14
    go_wp2
    go_ret
    rw [h1.out]
    refine ⟨congrArg (fun x => Ending.returned (Value.int .u8 x)) ?_, rfl⟩
    simp
    omega
  · have h1 : Hid (xt a = (2 * a) ^^^ 285) := if_neg h
    have h2 : Go.bits .xor .i64 (2 * (a : Int)) 285 = (((2 * a) ^^^ 285 : Nat) : Int) := by
      rw [show 2 * (a : Int) = ((2 * a : Nat) : Int) from by omega, show (285 : Int) = ((285 : Nat) : Int) from rfl]
      exact Bt.xori64 (by omega) (by decide)
    have h2' : Go.bits .xor .i64 ((a : Int) * 2) 285 = (((2 * a) ^^^ 285 : Nat) : Int) := by rw [Int.mul_comm]; exact h2
    have h3 : (2 * a) ^^^ 285 < 256 := by rw [← h1.out]; exact hx
    generalize (2 * a) ^^^ 285 = y at *
    go_enter Try.func14, Try.ntmps14
    go_wp2
    go_ret
    rw [h1.out]
    refine ⟨congrArg (fun x => Ending.returned (Value.int .u8 x)) ?_, rfl⟩
    simp

set_option maxRecDepth 100000 in
set_option maxHeartbeats 4000000 in
theorem agree_walk (a b : Nat) (n : Int) (w : World) (ha : a < 256) (hb : b < 256) (_ : (Lit.int .i64 n).wf = true) :
    Calls Try.prog 9 #[.int .u8 a, .int .u8 b, .int .i64 n] w fun e w' => e = .returned (.bool true) ∧ Below w.heap.size w w' := by
  have p2 : po 2 n = (pw 2 (n % 255).toNat, 0) := by
    unfold po
    by_cases h : n = 0
    · subst h; rfl
    · rw [if_neg h, if_neg (by decide)]
  have hbi : (b : Int) < 256 := by omega
  go_enter Try.func9, Try.ntmps9
  go_wp2_with fail
  refine (new_calls _).mono ?_
  rintro e w1 ⟨rfl, ht, hbl⟩
  have HT := Lib.hid ht; have HB := Lib.hid hbl
  clear ht hbl
  go_wp2_with (first
    | (go_at_call 12; refine (awake_calls _).mono ?_; rintro e w' ⟨rfl, rfl⟩)
    | (go_at_call 23; refine (tmul_calls w.heap.size a b _ (by exact HT.out) ha hb).mono ?_; rintro e w' ⟨rfl, m, rfl⟩)
    | (go_at_call 13; refine (mul_calls a b _ ha hb).mono ?_; rintro e w' ⟨rfl, rfl⟩)
    | (go_at_call 27; refine (tinv_calls w.heap.size a _ (by exact HT.out) ha).mono ?_; rintro e w' ⟨rfl, m, rfl⟩; unfold two)
    | (go_at_call 15; refine (inv_calls a _ ha).mono ?_; rintro e w' ⟨rfl, rfl⟩; unfold two)
    | (go_at_call 28; refine (tdiv_calls w.heap.size a b _ (by exact HT.out) ha hb).mono ?_; rintro e w' ⟨rfl, m, rfl⟩; unfold two)
    | (go_at_call 16; refine (div_calls a b _ ha hb).mono ?_; rintro e w' ⟨rfl, rfl⟩; unfold two)
    | (go_at_call 17; refine (pow_calls 2 n _ (by decide)).mono ?_; rintro e w' ⟨rfl, rfl⟩; unfold two)
    | (go_at_call 25; refine (texp_calls w.heap.size n _ (by exact HT.out)).mono ?_; rintro e w' ⟨rfl, m, rfl⟩)
    | (go_at_call 20; refine (trow_calls w.heap.size a _ (by exact HT.out) ha).mono ?_; rintro e w2 ⟨rfl, hr2, hb2⟩; have HR2 : Hid (R2.Bytes w2 w1.heap.size (R2.rowL a)) := hr2; have HB2 : Hid (Below w1.heap.size w1 w2) := ⟨hb2.os, hb2.tape, hb2.output, hb2.size, hb2.block⟩; clear hr2 hb2))
  have m1 := HR2.out.cellRow (i := b) (by rw [R2.rowL_length]; exact hb)
  have m2 := HR2.out.cellRow (i := 2) (by rw [R2.rowL_length]; decide)
  rw [R2.rowL_get hb] at m1
  rw [R2.rowL_get (by decide), gm_two' ha] at m2
  go_quiet ((first | (go_at_call 13; exact Calls.quiet_of_same ((mul_calls a b _ ha hb).mono fun _ _ h => ⟨h.1, h.2.symm⟩)) | (go_at_call 14; exact Calls.quiet_of_same ((twice_calls a _ ha).mono fun _ _ h => ⟨h.1, h.2.symm⟩))))
  go_wp2
  go_ret
  exact ⟨rfl, (HB.out.trans (HB2.out.mono HB.out.size)).drewN'⟩

/-- Which elements the first k powers are. -/
def seenf (k i : Nat) : Value := .bool (decide (i ≠ 0 ∧ lg i < k))
theorem seen_zero : rowV (seenf 0) 256 = (Array.replicate 256 (Value.bool false)) := by
  apply Array.ext_getElem?
  intro i
  by_cases h : i < 256
  · rw [rowV_get h]; simp [seenf, h]
  · rw [Array.getElem?_eq_none (by rw [rowV_size]; omega), Array.getElem?_eq_none (by simp; omega)]
theorem pw_ne_zero {k : Nat} (h : k < 255) : pw 2 k ≠ 0 := by
  intro e
  have := pw_add (a := 2) (by decide) k (255 - k)
  rw [e, gm_zero_left, show k + (255 - k) = 255 from by omega, pw255 (by decide) (by decide)] at this
  exact absurd this (by decide)
theorem seen_not {k : Nat} (h : k < 255) : seenf k (pw 2 k) = .bool false := by
  unfold seenf; rw [lg_pw h]; simp
theorem seen_step {k : Nat} (h : k < 255) : (rowV (seenf k) 256).setIfInBounds (pw 2 k) (.bool true) = rowV (seenf (k + 1)) 256 := by
  refine rowV_set ?_ ?_
  · unfold seenf; rw [lg_pw h]; simp [pw_ne_zero h]
  · intro j hj hne
    unfold seenf
    congr 2
    by_cases h0 : j = 0
    · simp [h0]
    · have : lg j ≠ k := fun e => hne (by rw [← e, pw_lg hj h0])
      simp only [h0, not_false_eq_true, true_and, ne_eq, eq_iff_iff]
      omega
theorem pw_sum (x y : Int) : gm (pw 2 (x % 255).toNat) (pw 2 (y % 255).toNat) = pw 2 ((x + y) % 255).toNat := by
  rw [← pw_add (by decide), pw_mod (by decide) (by decide)]
  congr 1
  omega
theorem pw_tmod (m : Int) : pw 2 (Int.tmod m 255 % 255).toNat = pw 2 (m % 255).toNat := by
  rcases tmod_cases m with ⟨h1, h2, h3⟩ | ⟨h1, h2, h3⟩
  · congr 2; omega
  · congr 2; omega
theorem tmod1000 (m : Int) : -1000 < Int.tmod m 1000 ∧ Int.tmod m 1000 < 1000 := by
  by_cases h : m < 0
  · rw [show m = -(-m) from by omega, Int.neg_tmod, Int.tmod_eq_emod_of_nonneg (by omega)]
    omega
  · rw [Int.tmod_eq_emod_of_nonneg (by omega)]; omega

set_option maxRecDepth 100000 in
set_option maxHeartbeats 1000000 in
theorem cycle_walk (m n : Int) (w : World) (_ : (Lit.int .i64 m).wf = true) (_ : (Lit.int .i64 n).wf = true) :
    Calls Try.prog 8 #[.int .i64 m, .int .i64 n] w fun e w' => e = .returned (.bool true) ∧ Below w.heap.size w w' := by
  have p1 : pw 2 1 = 2 := by decide +kernel
  go_enter Try.func8, Try.ntmps8
  go_wp2_with fail
  refine (new_calls _).mono ?_
  rintro e w1 ⟨rfl, ht, hbl⟩
  have HT := Lib.hid ht; have HB := Lib.hid hbl
  have hlt1 := ht.lt
  clear ht hbl
  go_wp2_with (first
    | (go_at_call 12; refine (awake_calls _).mono ?_; rintro e w' ⟨rfl, rfl⟩)
    | (go_at_call 25; refine (texp_calls w.heap.size _ _ (by exact HT.out)).mono ?_; rintro e w' ⟨rfl, k, rfl⟩)
    | ((with_reducible refine at_slot (N := 6) rfl ?_); refine ev rfl (alloc_run _ (.agg (Array.replicate 256 (.bool false))) (rowV (seenf 0) 256) rfl (by kernel_rfl) seen_zero.symm) ?_))
  go_loopw [7] (fun vi wr => ∃ i : Nat, i ≤ 255 ∧ vi = .int .i64 i ∧ TabsAt wr w.heap.size ∧ Blk wr w1.heap.size 42 (rowV (seenf i) 256) ∧ Below w.heap.size w wr) (fun vi _ => 255 - (intOf vi).toNat)
  case atStart => exact ⟨0, by omega, rfl, Blk.alloc _ (Blk.drewN _ HT.out), Blk.new (w1.drewN k) _ _, HB.out.drewN'.alloc HB.out.size _⟩
  case round =>
    clear p1
    obtain ⟨i, hi, rfl, ht, hs, hb⟩ := hrel
    have HT2 := Lib.hid ht; have HB2 := Lib.hid hb; have HS := Lib.hid hs
    clear ht hb hs
    by_cases hlt : i < 255
    · have e1 : ((i : Int) % 255).toNat = i := by omega
      have hp := pw_lt (a := 2) (by decide) i
      have hp0 := pw_ne_zero hlt
      have e2 : lo (pw 2 i) = .tuple #[.int .i64 (i : Int), .int .i64 0] := by rw [lo_pos hp0, lg_pw hlt]
      have e3 : (((pw 2 i : Nat) : Int) == 0) = false := beq_eq_false_iff_ne.mpr (by omega)
      have h1 := HS.out.cell (i := pw 2 i) (rowV_get hp)
      rw [seen_not hlt] at h1
      have f1 := HS.out.free (i := pw 2 i)
      have hpi : ((pw 2 i : Nat) : Int) < 256 := by omega
      have HStep := Lib.hid (seen_step hlt)
      clear hp0
      go_wp2_with (first
        | (go_at_call 25; refine (texp_calls w.heap.size _ _ (by exact HT2.out)).mono ?_; rintro e w' ⟨rfl, k, rfl⟩)
        | (go_at_call 26; refine (tlog_calls w.heap.size _ _ (by exact HT2.out) hp).mono ?_; rintro e w' ⟨rfl, rfl⟩))
      go_roundw
      case rel => exact ⟨i + 1, by omega, by go_num, (Blk.drewN _ HT2.out).set_other _ (by show w.heap.size ≠ w1.heap.size; omega), by rw [← HStep.out]; exact (Blk.drewN _ HS.out).set _, HB2.out.drewN'.setCell HB.out.size _⟩
      case measure => simp [intOf]; omega
    · obtain ⟨x1, x2⟩ := tmod1000 m
      obtain ⟨y1, y2⟩ := tmod1000 n
      have s1 := pw_sum (Int.tmod m 1000) (Int.tmod n 1000)
      have s2 := pw_tmod m
      have s3 := pw_tmod n
      have z1 := lo_zero
      have q1 := pw_lt (a := 2) (by decide) (Int.tmod m 1000 % 255).toNat
      have q2 := pw_lt (a := 2) (by decide) (Int.tmod n 1000 % 255).toNat
      have hi2 : 255 ≤ (i : Int) := by omega
      go_wp2_with (first
        | (go_at_call 25; refine (texp_calls w.heap.size _ _ (by exact HT2.out)).mono ?_; rintro e w' ⟨rfl, k, rfl⟩)
        | (go_at_call 26; refine (tlog_calls w.heap.size 0 _ (by exact HT2.out) (by decide)).mono ?_; rintro e w' ⟨rfl, rfl⟩)
        | (go_at_call 23; refine (tmul_calls w.heap.size _ _ _ (by exact HT2.out) q1 q2).mono ?_; rintro e w' ⟨rfl, k, rfl⟩))
      go_ret
      exact ⟨rfl, HB2.out.drewN'⟩

end Go.Proofs.Ytcjbiepdggibaaa.L2
