/- Layer 6 (nibble): the half lists and the kernel's calls: each function's contract, by its walk. -/
import Derived.Test.YtdbfkjhdnbmpeaaG8
import Derived.Test.YtdbfkjhdnbmpeaaWr
import Derived.Deep.RegionHeld3
namespace Go.Proofs.Ytdbfkjhdnbmpeaa.Nb
set_option linter.unusedSimpArgs false
set_option linter.unusedVariables false
open Go Go.RowKit Go.Proofs.Ytdbfkjhdnbmpeaa Go.Proofs.Ytdbfkjhdnbmpeaa.Mm Go.Proofs.Ytdbfkjhdnbmpeaa.Gf Go.Proofs.Ytdbfkjhdnbmpeaa.Wr

/-- An array of sixteen bytes at block b. -/
abbrev Arr16 (w : World) (b : Nat) (l : List Nat) : Prop := Blk w b 134 (row .u8 l)

def lowL (c : Nat) : List Nat := (List.range 16).map (gm c)
def highL (c : Nat) : List Nat := (List.range 16).map fun i => gm c (16 * i)
theorem lowL_get {c i : Nat} (h : i < 16) : (lowL c).getD i 0 = gm c i := by simp [lowL, h]
theorem highL_get {c i : Nat} (h : i < 16) : (highL c).getD i 0 = gm c (16 * i) := by simp [highL, h]
theorem lowL_length (c : Nat) : (lowL c).length = 16 := by simp [lowL]
theorem highL_length (c : Nat) : (highL c).length = 16 := by simp [highL]
theorem fill_one {f : Nat → Nat} (h : f 0 = 0) : (Value.agg (Array.replicate 16 (.int .u8 0))).cells = row .u8 (fill f 16 1) := by
  have e : fill f 16 1 = List.replicate 16 0 := by
    rw [← fill_zero f 16]
    unfold fill
    apply List.map_congr_left
    intro i _
    by_cases h0 : i = 0
    · subst h0; simp [h]
    · rw [if_neg (by omega), if_neg (by omega)]
  rw [e]
  rfl

theorem blk_second (w : World) (o : Obj) (c : Array Value) (t : TypeId) : Blk ((w.alloc o).alloc (.cells c t (0, 0))) (w.heap.size + 1) t c := by
  have := Blk.new (w.alloc o) c t
  have e : (w.alloc o).heap.size = w.heap.size + 1 := by simp
  rwa [e] at this

/-- A byte's product by its two halves. -/
theorem halves_sum {c x : Nat} (h : x < 256) : gm c (x % 16) ^^^ gm c (16 * (x / 16)) = gm c x := by
  rw [← gm_right]
  have hh : ∀ y : Fin 256, (y.val % 16) ^^^ (16 * (y.val / 16)) = y.val := by decide +kernel
  rw [hh ⟨x, h⟩]
theorem fill_get {f : Nat → Nat} {n k i : Nat} (h : i < k) (hk : k ≤ n) : (fill f n k).getD i 0 = f i := by
  simp [fill, show i < n by omega, h]
theorem pow_xor_add {k i : Nat} (h : i < 2 ^ k) : 2 ^ k ^^^ i = 2 ^ k + i := by
  have h1 : 2 ^ k + i = 2 ^ k ||| i := by
    have := Nat.two_pow_add_eq_or_of_lt (b := i) (i := k) h 1
    simpa using this
  rw [h1]
  apply Nat.eq_of_testBit_eq
  intro j
  rw [Nat.testBit_xor, Nat.testBit_or, Nat.testBit_two_pow]
  by_cases hj : k = j
  · subst hj; rw [Nat.testBit_lt_two_pow h]; simp
  · simp [hj]
/-- The next place of a half list: p a power of two, i below it. -/
theorem low_next {c p i : Nat} (hp : p = 1 ∨ p = 2 ∨ p = 4 ∨ p = 8) (hi : i < p) : gm c p ^^^ gm c i = gm c (p + i) := by
  rw [← gm_right]
  rcases hp with rfl | rfl | rfl | rfl
  · rw [show (1 : Nat) = 2 ^ 0 from rfl, pow_xor_add (by simpa using hi)]
  · rw [show (2 : Nat) = 2 ^ 1 from rfl, pow_xor_add (by simpa using hi)]
  · rw [show (4 : Nat) = 2 ^ 2 from rfl, pow_xor_add (by simpa using hi)]
  · rw [show (8 : Nat) = 2 ^ 3 from rfl, pow_xor_add (by simpa using hi)]
theorem high_next {c p i : Nat} (hp : p = 1 ∨ p = 2 ∨ p = 4 ∨ p = 8) (hi : i < p) : gm c (16 * p) ^^^ gm c (16 * i) = gm c (16 * (p + i)) := by
  rw [← gm_right]
  congr 1
  have h : ∀ x y : Nat, (16 * x) ^^^ (16 * y) = 16 * (x ^^^ y) := by
    intro x y
    have h := Nat.shiftLeft_xor_distrib (a := x) (b := y) (i := 4)
    simp only [Nat.shiftLeft_eq] at h
    rw [Nat.mul_comm 16 x, Nat.mul_comm 16 y, Nat.mul_comm 16]
    exact h.symm
  rw [h]
  congr 1
  rcases hp with rfl | rfl | rfl | rfl
  · rw [show (1 : Nat) = 2 ^ 0 from rfl, pow_xor_add (by simpa using hi)]
  · rw [show (2 : Nat) = 2 ^ 1 from rfl, pow_xor_add (by simpa using hi)]
  · rw [show (4 : Nat) = 2 ^ 2 from rfl, pow_xor_add (by simpa using hi)]
  · rw [show (8 : Nat) = 2 ^ 3 from rfl, pow_xor_add (by simpa using hi)]

set_option maxRecDepth 100000 in
set_option maxHeartbeats 4000000 in
theorem halves_calls (c : Nat) (w : World) (hc : c < 256) :
    Calls Try.prog 75 #[.int .u8 c] w fun e w' => e = .returned (.tuple #[.agg (row .u8 (lowL c)), .agg (row .u8 (highL c))]) ∧ Below w.heap.size w w' := by
  go_enter Try.func75, Try.ntmps75
  go_wp2_with (first
    | ((with_reducible refine at_slot (N := 2) rfl ?_); refine ev rfl (alloc_run _ (.agg (Array.replicate 16 (.int .u8 0))) (row .u8 (fill (gm c) 16 1)) rfl (by kernel_rfl) (fill_one (gm_zero_right c))) ?_)
    | ((with_reducible refine at_slot (N := 3) rfl ?_); refine ev rfl (alloc_run _ (.agg (Array.replicate 16 (.int .u8 0))) (row .u8 (fill (fun i => gm c (16 * i)) 16 1)) rfl (by kernel_rfl) (fill_one (f := fun i => gm c (16 * i)) (gm_zero_right c))) ?_))
  go_loopw [6] (fun vi wr => ∃ k : Nat, k ≤ 4 ∧ vi = .int .i64 k ∧ Arr16 wr w.heap.size (fill (gm c) 16 (2 ^ k)) ∧ Arr16 wr (w.heap.size + 1) (fill (fun i => gm c (16 * i)) 16 (2 ^ k)) ∧ Below w.heap.size w wr) (fun vi _ => 4 - (intOf vi).toNat)
  case atStart => exact ⟨0, by omega, rfl, (Blk.new _ _ _).alloc _, blk_second _ _ _ _, ((Below.refl _ _).alloc (Nat.le_refl _) _).alloc (by simp) _⟩
  case round =>
    obtain ⟨k, hk, rfl, hlo, hhi, hb⟩ := hrel
    have hz := hb.size
    by_cases hlt : k < 4
    · have hk4 : k = 0 ∨ k = 1 ∨ k = 2 ∨ k = 3 := by omega
      rcases hk4 with rfl | rfl | rfl | rfl
      · have m1 := hlo.cellRow (i := 1) (by rw [fill_length]; decide)
        have m2 := hhi.cellRow (i := 1) (by rw [fill_length]; decide)
        have f1 := hlo.free (i := 1)
        have f2 := hhi.free (i := 1)
        have HLO := Lib.hid hlo; have HHI := Lib.hid hhi; have HB := Lib.hid hb
        clear hlo hhi hb
        have q1 : IntKind.u8.wrap 1 = 1 := by decide
        have q2 : IntKind.i64.wrap 1 = 1 := by decide
        have q3 : IntKind.u8.wrap 16 = 16 := by decide
        go_wp2_with fail
        go_region_held3 (fun _ => True) (trivial) (first | (go_at_call 52; refine (G8.mul_any _ _ _ (by omega) (by omega) (by decide) (by decide)).mono ?_; rintro e w' ⟨rfl, rfl⟩))
        go_wp2_with fail
        go_region_held3 (fun _ => True) (trivial) (first | (go_at_call 52; refine (G8.mul_any _ _ _ (by omega) (by omega) (by decide) (by decide)).mono ?_; rintro e w' ⟨rfl, rfl⟩))
        go_wp2_with fail
        have HLO2 : Hid (Arr16 ((wr.setCell ⟨w.heap.size, 1, none⟩ (.int .u8 ((gm c 1 : Nat) : Int))).setCell ⟨w.heap.size + 1, 1, none⟩ (.int .u8 ((gm c 16 : Nat) : Int))).drew.drew w.heap.size (fill (gm c) 16 (1 + 1))) := by
          have h := HLO.out.setRow 1 (gm c 1)
          rw [show (2 : Nat) ^ 0 = 1 from rfl, fill_step (by decide)] at h
          exact (Blk.set_other _ h (by show w.heap.size ≠ w.heap.size + 1; omega)).drew.drew
        have HHI2 : Hid (Arr16 ((wr.setCell ⟨w.heap.size, 1, none⟩ (.int .u8 ((gm c 1 : Nat) : Int))).setCell ⟨w.heap.size + 1, 1, none⟩ (.int .u8 ((gm c 16 : Nat) : Int))).drew.drew (w.heap.size + 1) (fill (fun i => gm c (16 * i)) 16 (1 + 1))) := by
          have h := (Blk.set_other (a := ⟨w.heap.size, 1, none⟩) (.int .u8 ((gm c 1 : Nat) : Int)) HHI.out (by show w.heap.size + 1 ≠ w.heap.size; omega)).setRow 1 (gm c (16 * 1))
          rw [show (2 : Nat) ^ 0 = 1 from rfl, fill_step (f := fun i => gm c (16 * i)) (by decide)] at h
          exact h.drew.drew
        have HB2 := Lib.hid (((HB.out.setCell (p := ⟨w.heap.size, 1, none⟩) (Nat.le_refl _) (.int .u8 ((gm c 1 : Nat) : Int))).setCell (p := ⟨w.heap.size + 1, 1, none⟩) (Nat.le_succ _) (.int .u8 ((gm c 16 : Nat) : Int))).drew.drew)
        clear m1 m2 f1 f2 HLO HHI HB
        obtain ⟨wo, rfl⟩ : ∃ wo : World, wo = wr := ⟨_, rfl⟩
        go_loopw [5] (fun vi wr => ∃ i : Nat, 1 ≤ i ∧ i ≤ 1 ∧ vi = .int .i64 i ∧ Arr16 wr w.heap.size (fill (gm c) 16 (1 + i)) ∧ Arr16 wr (w.heap.size + 1) (fill (fun i => gm c (16 * i)) 16 (1 + i)) ∧ Below w.heap.size w wr) (fun vi _ => 1 - (intOf vi).toNat)
        case atStart => exact ⟨1, by omega, by omega, rfl, HLO2.out, HHI2.out, HB2.out⟩
        case round =>
          clear HLO2 HHI2 HB2
          obtain ⟨i, hi1, hi2, rfl, hlo, hhi, hb⟩ := hrel
          by_cases hip : i < 1
          · omega
          · obtain rfl : i = 1 := by omega
            go_wp2_with fail
            go_roundw
            case rel => exact ⟨0 + 1, by omega, by go_num, hlo, hhi, hb⟩
            case measure => simp [intOf]
      · have m1 := hlo.cellRow (i := 2) (by rw [fill_length]; decide)
        have m2 := hhi.cellRow (i := 2) (by rw [fill_length]; decide)
        have f1 := hlo.free (i := 2)
        have f2 := hhi.free (i := 2)
        have HLO := Lib.hid hlo; have HHI := Lib.hid hhi; have HB := Lib.hid hb
        clear hlo hhi hb
        have q1 : IntKind.u8.wrap 2 = 2 := by decide
        have q2 : IntKind.i64.wrap 2 = 2 := by decide
        have q3 : IntKind.u8.wrap 32 = 32 := by decide
        go_wp2_with fail
        go_region_held3 (fun _ => True) (trivial) (first | (go_at_call 52; refine (G8.mul_any _ _ _ (by omega) (by omega) (by decide) (by decide)).mono ?_; rintro e w' ⟨rfl, rfl⟩))
        go_wp2_with fail
        go_region_held3 (fun _ => True) (trivial) (first | (go_at_call 52; refine (G8.mul_any _ _ _ (by omega) (by omega) (by decide) (by decide)).mono ?_; rintro e w' ⟨rfl, rfl⟩))
        go_wp2_with fail
        have HLO2 : Hid (Arr16 ((wr.setCell ⟨w.heap.size, 2, none⟩ (.int .u8 ((gm c 2 : Nat) : Int))).setCell ⟨w.heap.size + 1, 2, none⟩ (.int .u8 ((gm c 32 : Nat) : Int))).drew.drew w.heap.size (fill (gm c) 16 (2 + 1))) := by
          have h := HLO.out.setRow 2 (gm c 2)
          rw [show (2 : Nat) ^ 1 = 2 from rfl, fill_step (by decide)] at h
          exact (Blk.set_other _ h (by show w.heap.size ≠ w.heap.size + 1; omega)).drew.drew
        have HHI2 : Hid (Arr16 ((wr.setCell ⟨w.heap.size, 2, none⟩ (.int .u8 ((gm c 2 : Nat) : Int))).setCell ⟨w.heap.size + 1, 2, none⟩ (.int .u8 ((gm c 32 : Nat) : Int))).drew.drew (w.heap.size + 1) (fill (fun i => gm c (16 * i)) 16 (2 + 1))) := by
          have h := (Blk.set_other (a := ⟨w.heap.size, 2, none⟩) (.int .u8 ((gm c 2 : Nat) : Int)) HHI.out (by show w.heap.size + 1 ≠ w.heap.size; omega)).setRow 2 (gm c (16 * 2))
          rw [show (2 : Nat) ^ 1 = 2 from rfl, fill_step (f := fun i => gm c (16 * i)) (by decide)] at h
          exact h.drew.drew
        have HB2 := Lib.hid (((HB.out.setCell (p := ⟨w.heap.size, 2, none⟩) (Nat.le_refl _) (.int .u8 ((gm c 2 : Nat) : Int))).setCell (p := ⟨w.heap.size + 1, 2, none⟩) (Nat.le_succ _) (.int .u8 ((gm c 32 : Nat) : Int))).drew.drew)
        clear m1 m2 f1 f2 HLO HHI HB
        obtain ⟨wo, rfl⟩ : ∃ wo : World, wo = wr := ⟨_, rfl⟩
        go_loopw [5] (fun vi wr => ∃ i : Nat, 1 ≤ i ∧ i ≤ 2 ∧ vi = .int .i64 i ∧ Arr16 wr w.heap.size (fill (gm c) 16 (2 + i)) ∧ Arr16 wr (w.heap.size + 1) (fill (fun i => gm c (16 * i)) 16 (2 + i)) ∧ Below w.heap.size w wr) (fun vi _ => 2 - (intOf vi).toNat)
        case atStart => exact ⟨1, by omega, by omega, rfl, HLO2.out, HHI2.out, HB2.out⟩
        case round =>
          clear HLO2 HHI2 HB2
          obtain ⟨i, hi1, hi2, rfl, hlo, hhi, hb⟩ := hrel
          by_cases hip : i < 2
          · have a1 := hlo.cellRow (i := 2) (by rw [fill_length]; decide)
            have a2 := hlo.cellRow (i := i) (by rw [fill_length]; omega)
            have a3 := hlo.cellRow (i := 2 + i) (by rw [fill_length]; omega)
            have a4 := hlo.free (i := 2 + i)
            rw [fill_get (by omega) (by omega)] at a1 a2
            have b1 := hhi.cellRow (i := 2) (by rw [fill_length]; decide)
            have b2 := hhi.cellRow (i := i) (by rw [fill_length]; omega)
            have b3 := hhi.cellRow (i := 2 + i) (by rw [fill_length]; omega)
            have b4 := hhi.free (i := 2 + i)
            rw [fill_get (by omega) (by omega)] at b1 b2
            have x1 : Go.bits .xor .u8 ((gm c 2 : Nat) : Int) ((gm c i : Nat) : Int) = ((gm c (2 + i) : Nat) : Int) := by
              rw [Bt.xor8 (gm_lt _ hc) (gm_lt _ hc), low_next (by decide) hip]
            have x2 : Go.bits .xor .u8 ((gm c (16 * 2) : Nat) : Int) ((gm c (16 * i) : Nat) : Int) = ((gm c (16 * (2 + i)) : Nat) : Int) := by
              rw [Bt.xor8 (gm_lt _ hc) (gm_lt _ hc), high_next (by decide) hip]
            have s1 : IntKind.i64.wrap (2 + (i : Int)) = 2 + (i : Int) := IntWalk.i64_in _ (by omega)
            have s2 : 0 ≤ 2 + (i : Int) := by omega
            have s3 : (2 + (i : Int)).toNat = 2 + i := by omega
            have s4 : 2 + (i : Int) < 16 := by omega
            have HLO := Lib.hid hlo; have HHI := Lib.hid hhi; have HB := Lib.hid hb
            clear hlo hhi hb
            go_wp2_with fail
            go_region
            go_wp2_with fail
            go_region
            go_wp2_with fail
            go_roundw
            case rel =>
              have hl := HLO.out.setRow (2 + i) (gm c (2 + i))
              rw [fill_step (by omega)] at hl
              have hl2 := (Blk.set_other (a := ⟨w.heap.size + 1, 2 + i, none⟩) (.int .u8 ((gm c (16 * (2 + i)) : Nat) : Int)) hl (by show w.heap.size ≠ w.heap.size + 1; omega)).drew.drew
              have hh := (Blk.set_other (a := ⟨w.heap.size, 2 + i, none⟩) (.int .u8 ((gm c (2 + i) : Nat) : Int)) HHI.out (by show w.heap.size + 1 ≠ w.heap.size; omega)).setRow (2 + i) (gm c (16 * (2 + i)))
              rw [fill_step (f := fun i => gm c (16 * i)) (by omega)] at hh
              have hbb := ((HB.out.setCell (p := ⟨w.heap.size, 2 + i, none⟩) (Nat.le_refl _) (.int .u8 ((gm c (2 + i) : Nat) : Int))).setCell (p := ⟨w.heap.size + 1, 2 + i, none⟩) (Nat.le_succ _) (.int .u8 ((gm c (16 * (2 + i)) : Nat) : Int))).drew.drew
              exact ⟨i + 1, by omega, by omega, by go_num, hl2, hh.drew.drew, hbb⟩
            case measure => simp [intOf]; omega
          · obtain rfl : i = 2 := by omega
            go_wp2_with fail
            go_roundw
            case rel => exact ⟨1 + 1, by omega, by go_num, hlo, hhi, hb⟩
            case measure => simp [intOf]
      · have m1 := hlo.cellRow (i := 4) (by rw [fill_length]; decide)
        have m2 := hhi.cellRow (i := 4) (by rw [fill_length]; decide)
        have f1 := hlo.free (i := 4)
        have f2 := hhi.free (i := 4)
        have HLO := Lib.hid hlo; have HHI := Lib.hid hhi; have HB := Lib.hid hb
        clear hlo hhi hb
        have q1 : IntKind.u8.wrap 4 = 4 := by decide
        have q2 : IntKind.i64.wrap 4 = 4 := by decide
        have q3 : IntKind.u8.wrap 64 = 64 := by decide
        go_wp2_with fail
        go_region_held3 (fun _ => True) (trivial) (first | (go_at_call 52; refine (G8.mul_any _ _ _ (by omega) (by omega) (by decide) (by decide)).mono ?_; rintro e w' ⟨rfl, rfl⟩))
        go_wp2_with fail
        go_region_held3 (fun _ => True) (trivial) (first | (go_at_call 52; refine (G8.mul_any _ _ _ (by omega) (by omega) (by decide) (by decide)).mono ?_; rintro e w' ⟨rfl, rfl⟩))
        go_wp2_with fail
        have HLO2 : Hid (Arr16 ((wr.setCell ⟨w.heap.size, 4, none⟩ (.int .u8 ((gm c 4 : Nat) : Int))).setCell ⟨w.heap.size + 1, 4, none⟩ (.int .u8 ((gm c 64 : Nat) : Int))).drew.drew w.heap.size (fill (gm c) 16 (4 + 1))) := by
          have h := HLO.out.setRow 4 (gm c 4)
          rw [show (2 : Nat) ^ 2 = 4 from rfl, fill_step (by decide)] at h
          exact (Blk.set_other _ h (by show w.heap.size ≠ w.heap.size + 1; omega)).drew.drew
        have HHI2 : Hid (Arr16 ((wr.setCell ⟨w.heap.size, 4, none⟩ (.int .u8 ((gm c 4 : Nat) : Int))).setCell ⟨w.heap.size + 1, 4, none⟩ (.int .u8 ((gm c 64 : Nat) : Int))).drew.drew (w.heap.size + 1) (fill (fun i => gm c (16 * i)) 16 (4 + 1))) := by
          have h := (Blk.set_other (a := ⟨w.heap.size, 4, none⟩) (.int .u8 ((gm c 4 : Nat) : Int)) HHI.out (by show w.heap.size + 1 ≠ w.heap.size; omega)).setRow 4 (gm c (16 * 4))
          rw [show (2 : Nat) ^ 2 = 4 from rfl, fill_step (f := fun i => gm c (16 * i)) (by decide)] at h
          exact h.drew.drew
        have HB2 := Lib.hid (((HB.out.setCell (p := ⟨w.heap.size, 4, none⟩) (Nat.le_refl _) (.int .u8 ((gm c 4 : Nat) : Int))).setCell (p := ⟨w.heap.size + 1, 4, none⟩) (Nat.le_succ _) (.int .u8 ((gm c 64 : Nat) : Int))).drew.drew)
        clear m1 m2 f1 f2 HLO HHI HB
        obtain ⟨wo, rfl⟩ : ∃ wo : World, wo = wr := ⟨_, rfl⟩
        go_loopw [5] (fun vi wr => ∃ i : Nat, 1 ≤ i ∧ i ≤ 4 ∧ vi = .int .i64 i ∧ Arr16 wr w.heap.size (fill (gm c) 16 (4 + i)) ∧ Arr16 wr (w.heap.size + 1) (fill (fun i => gm c (16 * i)) 16 (4 + i)) ∧ Below w.heap.size w wr) (fun vi _ => 4 - (intOf vi).toNat)
        case atStart => exact ⟨1, by omega, by omega, rfl, HLO2.out, HHI2.out, HB2.out⟩
        case round =>
          clear HLO2 HHI2 HB2
          obtain ⟨i, hi1, hi2, rfl, hlo, hhi, hb⟩ := hrel
          by_cases hip : i < 4
          · have a1 := hlo.cellRow (i := 4) (by rw [fill_length]; decide)
            have a2 := hlo.cellRow (i := i) (by rw [fill_length]; omega)
            have a3 := hlo.cellRow (i := 4 + i) (by rw [fill_length]; omega)
            have a4 := hlo.free (i := 4 + i)
            rw [fill_get (by omega) (by omega)] at a1 a2
            have b1 := hhi.cellRow (i := 4) (by rw [fill_length]; decide)
            have b2 := hhi.cellRow (i := i) (by rw [fill_length]; omega)
            have b3 := hhi.cellRow (i := 4 + i) (by rw [fill_length]; omega)
            have b4 := hhi.free (i := 4 + i)
            rw [fill_get (by omega) (by omega)] at b1 b2
            have x1 : Go.bits .xor .u8 ((gm c 4 : Nat) : Int) ((gm c i : Nat) : Int) = ((gm c (4 + i) : Nat) : Int) := by
              rw [Bt.xor8 (gm_lt _ hc) (gm_lt _ hc), low_next (by decide) hip]
            have x2 : Go.bits .xor .u8 ((gm c (16 * 4) : Nat) : Int) ((gm c (16 * i) : Nat) : Int) = ((gm c (16 * (4 + i)) : Nat) : Int) := by
              rw [Bt.xor8 (gm_lt _ hc) (gm_lt _ hc), high_next (by decide) hip]
            have s1 : IntKind.i64.wrap (4 + (i : Int)) = 4 + (i : Int) := IntWalk.i64_in _ (by omega)
            have s2 : 0 ≤ 4 + (i : Int) := by omega
            have s3 : (4 + (i : Int)).toNat = 4 + i := by omega
            have s4 : 4 + (i : Int) < 16 := by omega
            have HLO := Lib.hid hlo; have HHI := Lib.hid hhi; have HB := Lib.hid hb
            clear hlo hhi hb
            go_wp2_with fail
            go_region
            go_wp2_with fail
            go_region
            go_wp2_with fail
            go_roundw
            case rel =>
              have hl := HLO.out.setRow (4 + i) (gm c (4 + i))
              rw [fill_step (by omega)] at hl
              have hl2 := (Blk.set_other (a := ⟨w.heap.size + 1, 4 + i, none⟩) (.int .u8 ((gm c (16 * (4 + i)) : Nat) : Int)) hl (by show w.heap.size ≠ w.heap.size + 1; omega)).drew.drew
              have hh := (Blk.set_other (a := ⟨w.heap.size, 4 + i, none⟩) (.int .u8 ((gm c (4 + i) : Nat) : Int)) HHI.out (by show w.heap.size + 1 ≠ w.heap.size; omega)).setRow (4 + i) (gm c (16 * (4 + i)))
              rw [fill_step (f := fun i => gm c (16 * i)) (by omega)] at hh
              have hbb := ((HB.out.setCell (p := ⟨w.heap.size, 4 + i, none⟩) (Nat.le_refl _) (.int .u8 ((gm c (4 + i) : Nat) : Int))).setCell (p := ⟨w.heap.size + 1, 4 + i, none⟩) (Nat.le_succ _) (.int .u8 ((gm c (16 * (4 + i)) : Nat) : Int))).drew.drew
              exact ⟨i + 1, by omega, by omega, by go_num, hl2, hh.drew.drew, hbb⟩
            case measure => simp [intOf]; omega
          · obtain rfl : i = 4 := by omega
            go_wp2_with fail
            go_roundw
            case rel => exact ⟨2 + 1, by omega, by go_num, hlo, hhi, hb⟩
            case measure => simp [intOf]
      · have m1 := hlo.cellRow (i := 8) (by rw [fill_length]; decide)
        have m2 := hhi.cellRow (i := 8) (by rw [fill_length]; decide)
        have f1 := hlo.free (i := 8)
        have f2 := hhi.free (i := 8)
        have HLO := Lib.hid hlo; have HHI := Lib.hid hhi; have HB := Lib.hid hb
        clear hlo hhi hb
        have q1 : IntKind.u8.wrap 8 = 8 := by decide
        have q2 : IntKind.i64.wrap 8 = 8 := by decide
        have q3 : IntKind.u8.wrap 128 = 128 := by decide
        go_wp2_with fail
        go_region_held3 (fun _ => True) (trivial) (first | (go_at_call 52; refine (G8.mul_any _ _ _ (by omega) (by omega) (by decide) (by decide)).mono ?_; rintro e w' ⟨rfl, rfl⟩))
        go_wp2_with fail
        go_region_held3 (fun _ => True) (trivial) (first | (go_at_call 52; refine (G8.mul_any _ _ _ (by omega) (by omega) (by decide) (by decide)).mono ?_; rintro e w' ⟨rfl, rfl⟩))
        go_wp2_with fail
        have HLO2 : Hid (Arr16 ((wr.setCell ⟨w.heap.size, 8, none⟩ (.int .u8 ((gm c 8 : Nat) : Int))).setCell ⟨w.heap.size + 1, 8, none⟩ (.int .u8 ((gm c 128 : Nat) : Int))).drew.drew w.heap.size (fill (gm c) 16 (8 + 1))) := by
          have h := HLO.out.setRow 8 (gm c 8)
          rw [show (2 : Nat) ^ 3 = 8 from rfl, fill_step (by decide)] at h
          exact (Blk.set_other _ h (by show w.heap.size ≠ w.heap.size + 1; omega)).drew.drew
        have HHI2 : Hid (Arr16 ((wr.setCell ⟨w.heap.size, 8, none⟩ (.int .u8 ((gm c 8 : Nat) : Int))).setCell ⟨w.heap.size + 1, 8, none⟩ (.int .u8 ((gm c 128 : Nat) : Int))).drew.drew (w.heap.size + 1) (fill (fun i => gm c (16 * i)) 16 (8 + 1))) := by
          have h := (Blk.set_other (a := ⟨w.heap.size, 8, none⟩) (.int .u8 ((gm c 8 : Nat) : Int)) HHI.out (by show w.heap.size + 1 ≠ w.heap.size; omega)).setRow 8 (gm c (16 * 8))
          rw [show (2 : Nat) ^ 3 = 8 from rfl, fill_step (f := fun i => gm c (16 * i)) (by decide)] at h
          exact h.drew.drew
        have HB2 := Lib.hid (((HB.out.setCell (p := ⟨w.heap.size, 8, none⟩) (Nat.le_refl _) (.int .u8 ((gm c 8 : Nat) : Int))).setCell (p := ⟨w.heap.size + 1, 8, none⟩) (Nat.le_succ _) (.int .u8 ((gm c 128 : Nat) : Int))).drew.drew)
        clear m1 m2 f1 f2 HLO HHI HB
        obtain ⟨wo, rfl⟩ : ∃ wo : World, wo = wr := ⟨_, rfl⟩
        go_loopw [5] (fun vi wr => ∃ i : Nat, 1 ≤ i ∧ i ≤ 8 ∧ vi = .int .i64 i ∧ Arr16 wr w.heap.size (fill (gm c) 16 (8 + i)) ∧ Arr16 wr (w.heap.size + 1) (fill (fun i => gm c (16 * i)) 16 (8 + i)) ∧ Below w.heap.size w wr) (fun vi _ => 8 - (intOf vi).toNat)
        case atStart => exact ⟨1, by omega, by omega, rfl, HLO2.out, HHI2.out, HB2.out⟩
        case round =>
          clear HLO2 HHI2 HB2
          obtain ⟨i, hi1, hi2, rfl, hlo, hhi, hb⟩ := hrel
          by_cases hip : i < 8
          · have a1 := hlo.cellRow (i := 8) (by rw [fill_length]; decide)
            have a2 := hlo.cellRow (i := i) (by rw [fill_length]; omega)
            have a3 := hlo.cellRow (i := 8 + i) (by rw [fill_length]; omega)
            have a4 := hlo.free (i := 8 + i)
            rw [fill_get (by omega) (by omega)] at a1 a2
            have b1 := hhi.cellRow (i := 8) (by rw [fill_length]; decide)
            have b2 := hhi.cellRow (i := i) (by rw [fill_length]; omega)
            have b3 := hhi.cellRow (i := 8 + i) (by rw [fill_length]; omega)
            have b4 := hhi.free (i := 8 + i)
            rw [fill_get (by omega) (by omega)] at b1 b2
            have x1 : Go.bits .xor .u8 ((gm c 8 : Nat) : Int) ((gm c i : Nat) : Int) = ((gm c (8 + i) : Nat) : Int) := by
              rw [Bt.xor8 (gm_lt _ hc) (gm_lt _ hc), low_next (by decide) hip]
            have x2 : Go.bits .xor .u8 ((gm c (16 * 8) : Nat) : Int) ((gm c (16 * i) : Nat) : Int) = ((gm c (16 * (8 + i)) : Nat) : Int) := by
              rw [Bt.xor8 (gm_lt _ hc) (gm_lt _ hc), high_next (by decide) hip]
            have s1 : IntKind.i64.wrap (8 + (i : Int)) = 8 + (i : Int) := IntWalk.i64_in _ (by omega)
            have s2 : 0 ≤ 8 + (i : Int) := by omega
            have s3 : (8 + (i : Int)).toNat = 8 + i := by omega
            have s4 : 8 + (i : Int) < 16 := by omega
            have HLO := Lib.hid hlo; have HHI := Lib.hid hhi; have HB := Lib.hid hb
            clear hlo hhi hb
            go_wp2_with fail
            go_region
            go_wp2_with fail
            go_region
            go_wp2_with fail
            go_roundw
            case rel =>
              have hl := HLO.out.setRow (8 + i) (gm c (8 + i))
              rw [fill_step (by omega)] at hl
              have hl2 := (Blk.set_other (a := ⟨w.heap.size + 1, 8 + i, none⟩) (.int .u8 ((gm c (16 * (8 + i)) : Nat) : Int)) hl (by show w.heap.size ≠ w.heap.size + 1; omega)).drew.drew
              have hh := (Blk.set_other (a := ⟨w.heap.size, 8 + i, none⟩) (.int .u8 ((gm c (8 + i) : Nat) : Int)) HHI.out (by show w.heap.size + 1 ≠ w.heap.size; omega)).setRow (8 + i) (gm c (16 * (8 + i)))
              rw [fill_step (f := fun i => gm c (16 * i)) (by omega)] at hh
              have hbb := ((HB.out.setCell (p := ⟨w.heap.size, 8 + i, none⟩) (Nat.le_refl _) (.int .u8 ((gm c (8 + i) : Nat) : Int))).setCell (p := ⟨w.heap.size + 1, 8 + i, none⟩) (Nat.le_succ _) (.int .u8 ((gm c (16 * (8 + i)) : Nat) : Int))).drew.drew
              exact ⟨i + 1, by omega, by omega, by go_num, hl2, hh.drew.drew, hbb⟩
            case measure => simp [intOf]; omega
          · obtain rfl : i = 8 := by omega
            go_wp2_with fail
            go_roundw
            case rel => exact ⟨3 + 1, by omega, by go_num, hlo, hhi, hb⟩
            case measure => simp [intOf]
    · obtain rfl : k = 4 := by omega
      rw [fill_done] at hlo hhi
      have r1 := hlo.range
      have r2 := hhi.range
      have t1 := hlo.there (n := 16) (by rw [row_size, List.length_map, List.length_range]; decide)
      have t2 := hhi.there (n := 16) (by rw [row_size, List.length_map, List.length_range]; decide)
      have n1 : (row .u8 ((List.range 16).map (gm c))).toList.length = 16 := by simp [row]
      have n2 : (row .u8 ((List.range 16).map fun i => gm c (16 * i))).toList.length = 16 := by simp [row]
      have o1 := row_one .u8 ((List.range 16).map (gm c))
      have o2 := row_one .u8 ((List.range 16).map fun i => gm c (16 * i))
      have HB := Lib.hid hb
      clear hlo hhi hb
      generalize hA : (row .u8 ((List.range 16).map (gm c))).toList = A at *
      generalize hC : (row .u8 ((List.range 16).map fun i => gm c (16 * i))).toList = C at *
      have HA := Lib.hid hA; have HC := Lib.hid hC
      clear hA hC
      have u16 : Try.prog.underlying 134 = some (.array 16 5) := Try.underlying134
      have z1 : (Try.prog.info? 134).map (·.size) = some A.length := by rw [n1]; kernel_rfl
      have z2 : (Try.prog.info? 134).map (·.size) = some C.length := by rw [n2]; kernel_rfl
      go_wp2_with fail
      refine wp_region_held_drew (S := (fun w' => w'.rangeAt w.heap.size 0 A ∧ w'.rangeAt (w.heap.size + 1) 0 C ∧ w'.there w.heap.size 0 16 ∧ w'.there (w.heap.size + 1) 0 16)) (by kernel_rfl) ?_ (fun hHeld => ?_)
      · exact ⟨(World.rangeAt_drew _ _ _ _).2 r1, (World.rangeAt_drew _ _ _ _).2 r2, (World.there_drew _ _ _ _).2 t1, (World.there_drew _ _ _ _).2 t2⟩
      · refine' wpAnyH_take (i := 0) (v := _) rfl (by kernel_rfl) (by kernel_rfl) (by kernel_rfl) (fun _ _ _ h => h)
          (yieldsIf_load_mid (by rfl) _ _ rfl _ _ rfl _ _ ?hS ?hu ?hd ?hi) (by assumption) ?rest
        case hS => (intro w hSw; (try dsimp only at hSw); go_split_ands; assumption)
        case hu => assumption
        case hd => rfl
        case hi => assumption
        simp only [Act.put, List.getElem_toArray, List.getElem_cons_zero, List.setIfInBounds_toArray, List.set_cons_zero, List.set_cons_succ]
        refine' wpAnyH_take (i := 1) (v := _) rfl (by kernel_rfl) (by kernel_rfl) (by kernel_rfl) (fun _ _ _ h => h)
          (yieldsIf_load_mid (by rfl) _ _ rfl _ _ rfl C _ ?gS u16 rfl z2) (by assumption) ?after
        case gS => (intro w hSw; (try dsimp only at hSw); go_split_ands; assumption)
        simp only [Act.put, List.getElem_toArray, List.getElem_cons_zero, List.getElem_cons_succ, List.setIfInBounds_toArray, List.set_cons_zero, List.set_cons_succ]
        obtain ⟨h1, h2, h3, h4⟩ := hHeld
        have e1 : A.toArray.size = 16 := by simp [n1]
        have e2 : C.toArray.size = 16 := by simp [n2]
        refine one_ready (i := 2) (by kernel_rfl) rfl rfl ?_
        refine wp_store_mid 134 _ _ rfl w.heap.size 0 A.toArray rfl rfl (by rw [e1]; exact h3) (by rw [List.size_toArray]; exact z1) (all_oneCell_toArray o1) ?_
        rw [List.toList_toArray]
        have k1 := World.rangeAt_setCells_same wr.drew w.heap.size 0 A (by rw [n1]; exact h3)
        have k2 := World.rangeAt_setCells_apart h2 w.heap.size 0 A (.inl (by omega))
        have k3 := World.there_setCells h3 w.heap.size 0 A
        have k4 := World.there_setCells h4 w.heap.size 0 A
        refine ⟨⟨k1, k2, k3, k4⟩, ?_⟩
        refine one_ready (i := 3) (by kernel_rfl) rfl rfl ?_
        refine wp_store_mid 134 _ _ rfl (w.heap.size + 1) 0 C.toArray rfl rfl (by rw [e2]; exact k4) (by rw [List.size_toArray]; exact z2) (all_oneCell_toArray o2) ?_
        rw [List.toList_toArray]
        have l1 := World.rangeAt_setCells_apart k1 (w.heap.size + 1) 0 C (.inl (by omega))
        have l2 := World.rangeAt_setCells_same (wr.drew.setCells w.heap.size 0 A) (w.heap.size + 1) 0 C (by rw [n2]; exact k4)
        refine ⟨⟨l1, l2, World.there_setCells k3 _ _ _, World.there_setCells k4 _ _ _⟩, ?_⟩
        refine none_ready (by kernel_rfl) ?_
        simp only [Act.put, List.getElem_toArray, List.getElem_cons_zero, List.getElem_cons_succ]
        have l3 := below_setCells (w.heap.size + 1) (Nat.le_succ _) C 0 _ (below_setCells w.heap.size (Nat.le_refl _) A 0 _ HB.out.drew)
        go_wp2
        have HA' := HA.out; have HC' := HC.out
        refine bodyPost_ret (results_cells2 (b1 := w.heap.size) (b2 := w.heap.size + 1) (v1 := .agg A.toArray) (v2 := .agg C.toArray) rfl rfl rfl (load_range (by simpa using l1) u16 (by simpa using z1)) (load_range (by simpa using l2) u16 (by simpa using z2))) rfl ⟨?_, l3⟩
        rw [← HA', ← HC']
        rfl

-- HALVES END
end Go.Proofs.Ytdbfkjhdnbmpeaa.Nb
