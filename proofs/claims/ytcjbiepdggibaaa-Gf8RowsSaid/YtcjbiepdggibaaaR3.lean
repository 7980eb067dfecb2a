/- The document's answers of layer 2 (culletref02): Log and Row, and the tables' Row (gf8): contracts, by walks. -/
import Derived.Test.YtcjbiepdggibaaaR2
import Derived.Test.YtcjbiepdggibaaaWr
import Derived.Test.YtcjbiepdggibaaaTb
import Derived.Test.YtcjbiepdggibaaaGa
namespace Go.Proofs.Ytcjbiepdggibaaa.R2
set_option linter.unusedSimpArgs false
set_option linter.unusedVariables false
open Go Go.RowKit Go.Proofs.Ytcjbiepdggibaaa Go.Proofs.Ytcjbiepdggibaaa.Mm Go.Proofs.Ytcjbiepdggibaaa.Wr

set_option maxRecDepth 100000 in
set_option maxHeartbeats 1000000 in
theorem log_calls (a : Nat) (w : World) (ha : a < 256) :
    Calls Try.prog 39 #[.int .u8 a] w fun e w' => e = .returned (Tb.lo a) ∧ w = w' := by
  go_enter Try.func39, Try.ntmps39
  go_wp2
  go_loopw [4, 5] (fun vp vi wr => ∃ i : Nat, i ≤ 255 ∧ vi = .int .i64 i ∧ vp = .int .u8 ((Gf.pw 2 i : Nat) : Int) ∧ (∀ m, m < i → Gf.pw 2 m ≠ a) ∧ w = wr) (fun _ vi _ => 255 - (intOf vi).toNat)
  case atStart => exact ⟨0, by omega, rfl, rfl, fun m hm => by omega, rfl⟩
  case round =>
    obtain ⟨i, hi, rfl, rfl, hno, rfl⟩ := hrel
    have hp := Gf.pw_lt (a := 2) (by decide) i
    have HN := Lib.hid hno
    clear hno
    by_cases hlt : i < 255
    · by_cases he : Gf.pw 2 i = a
      · have e1 : (((Gf.pw 2 i : Nat) : Int) == ((a : Nat) : Int)) = true := beq_iff_eq.mpr (by omega)
        have e2 : Tb.lg a = i := by rw [← he, Tb.lg_pw hlt]
        have a0 : ¬ a = 0 := by
          intro h
          rw [h] at he
          have := Gf.pw_add (a := 2) (by decide) i (255 - i)
          rw [he, Gf.gm_zero_left, show i + (255 - i) = 255 from by omega, Gf.pw255 (by decide) (by decide)] at this
          exact absurd this (by decide)
        have e3 : (Gf.pw 2 i == a) = true := by simpa using he
        have hd : Hid (Tb.lo a = .tuple #[.int .i64 (i : Int), .int .i64 0]) := by show _ = _; rw [Tb.lo_pos a0, e2]
        clear e2 a0
        clear he
        go_wp2
        go_ret2
        rw [hd.out]
        exact ⟨rfl, rfl⟩
      · have e1 : (((Gf.pw 2 i : Nat) : Int) == ((a : Nat) : Int)) = false := beq_eq_false_iff_ne.mpr (by omega)
        have e3 : (Gf.pw 2 i == a) = false := by simpa using he
        have HN2 : Hid (∀ m, m < i + 1 → Gf.pw 2 m ≠ a) := by
          intro m hm
          by_cases h : m = i
          · rw [h]; exact he
          · exact HN.out m (by omega)
        clear he
        go_wp2_with (go_at_call 24; refine (mul_calls _ 2 _ hp (by decide)).mono ?_; rintro e w' ⟨rfl, rfl⟩)
        go_roundw
        case rel => exact ⟨i + 1, by omega, by go_num, rfl, HN2.out, trivial⟩
        case measure => simp [intOf]; omega
    · obtain rfl : i = 255 := by omega
      have a0 : Hid (a = 0) := by
        show _ = _
        by_cases h : a = 0
        · exact h
        · exact absurd (Tb.pw_lg ha h) (HN.out _ (Tb.lg_lt a))
      go_wp2
      go_ret2
      rw [a0.out, Tb.lo_zero]
      exact ⟨rfl, rfl⟩

/-- The row of products. -/
def rowL (c : Nat) : List Nat := (List.range 256).map (Gf.gm c)
theorem rowL_length (c : Nat) : (rowL c).length = 256 := by simp [rowL]
theorem getD_map_range {f : Nat → Nat} {n i : Nat} (h : i < n) : ((List.range n).map f).getD i 0 = f i := by simp [h]
theorem rowL_get {c i : Nat} (h : i < 256) : (rowL c).getD i 0 = Gf.gm c i := getD_map_range h

set_option maxRecDepth 100000 in
set_option maxHeartbeats 1000000 in
theorem row_calls (c : Nat) (w : World) (hc : c < 256) :
    Calls Try.prog 21 #[.int .u8 c] w fun e w' => e = .returned (.slice (some ⟨w.heap.size, 0, none⟩) 256 256) ∧ Bytes w' w.heap.size (rowL c) ∧ Below w.heap.size w w' := by
  go_enter Try.func21, Try.ntmps21
  go_wp2_with ((with_reducible refine at_slot (N := 5) rfl ?_); refine ev rfl (make_run 33 5 _ _ .u8 .i64 .i64 256 256 1 rfl rfl rfl Try.underlying33 info_u8 (by decide) (by decide) (by decide)) ?_)
  go_loopw [4] (fun vi wr => ∃ i : Nat, i ≤ 256 ∧ vi = .int .i64 i ∧ Bytes wr w.heap.size (fill (Gf.gm c) 256 i) ∧ Below w.heap.size w wr) (fun vi _ => 256 - (intOf vi).toNat)
  case atStart => exact ⟨0, by omega, rfl, by rw [fill_zero]; exact Blk.new _ _ _, (Below.refl _ _).alloc (Nat.le_refl _) _⟩
  case round =>
    obtain ⟨i, hi, rfl, hr, hb⟩ := hrel
    by_cases hlt : i < 256
    · have h1 := hr.cellRow (i := i) (by rw [fill_length]; exact hlt)
      have f1 := hr.free (i := i)
      have m1 : (i : Int) % 256 = i := by omega
      go_wp2_with (go_at_call 24; refine (mul_calls _ _ _ hc hlt).mono ?_; rintro e w' ⟨rfl, rfl⟩)
      go_roundw
      case rel => exact ⟨i + 1, by omega, by go_num, by rw [← fill_step hlt]; exact hr.setRow _ _, hb.setCell (Nat.le_refl _) _⟩
      case measure => simp [intOf]; omega
    · obtain rfl : i = 256 := by omega
      rw [fill_done] at hr
      go_wp2
      go_ret
      exact ⟨rfl, hr, hb⟩

end Go.Proofs.Ytcjbiepdggibaaa.R2
namespace Go.Proofs.Ytcjbiepdggibaaa.G8
open Go Go.RowKit Go.Proofs.Ytcjbiepdggibaaa Go.Proofs.Ytcjbiepdggibaaa.Mm Go.Proofs.Ytcjbiepdggibaaa.Wr Go.Proofs.Ytcjbiepdggibaaa.R2

set_option maxRecDepth 100000 in
set_option maxHeartbeats 1000000 in
theorem trow_calls (b c : Nat) (w : World) (ht : TabsAt w b) (hc : c < 256) :
    Calls Try.prog 20 #[.pointer (some ⟨b, 0, none⟩), .int .u8 c] w fun e w' => e = .returned (.slice (some ⟨w.heap.size, 0, none⟩) 256 256) ∧ Bytes w' w.heap.size (rowL c) ∧ Below w.heap.size w w' := by
  have hbl := ht.lt
  have HT := Lib.hid ht
  clear ht
  go_enter Try.func20, Try.ntmps20
  go_wp2_with ((with_reducible refine at_slot (N := 9) rfl ?_); refine ev rfl (make_run 33 5 _ _ .u8 .i64 .i64 256 256 1 rfl rfl rfl Try.underlying33 info_u8 (by decide) (by decide) (by decide)) ?_)
  go_loopw [12] (fun vi wr => ∃ i : Nat, i ≤ 256 ∧ vi = .int .i64 i ∧ Bytes wr w.heap.size (fill (Gf.gm c) 256 i) ∧ Below w.heap.size w wr) (fun vi _ => 256 - (intOf vi).toNat)
  case atStart => exact ⟨0, by omega, rfl, by rw [fill_zero]; exact Blk.new _ _ _, (Below.refl _ _).alloc (Nat.le_refl _) _⟩
  case round =>
    obtain ⟨i, hi, rfl, hr, hb⟩ := hrel
    by_cases hlt : i < 256
    · have h1 := hr.cellRow (i := i) (by rw [fill_length]; exact hlt)
      have f1 := hr.free (i := i)
      have m1 : (i : Int) % 256 = i := by omega
      have HT2 : Hid (TabsAt wr b) := HT.out.below hb hbl
      go_wp2_with (go_at_call 23; refine (tmul_calls b _ _ _ (by exact HT2.out) hc hlt).mono ?_; rintro e w' ⟨rfl, n, rfl⟩)
      go_roundw
      case rel => exact ⟨i + 1, by omega, by go_num, by rw [← fill_step hlt]; exact (hr.drewN n).setRow _ _, hb.drewN'.setCell (Nat.le_refl _) _⟩
      case measure => simp [intOf]; omega
    · obtain rfl : i = 256 := by omega
      rw [fill_done] at hr
      go_wp2
      go_ret
      exact ⟨rfl, hr, hb⟩

end Go.Proofs.Ytcjbiepdggibaaa.G8
