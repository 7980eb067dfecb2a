/- The document's answers of layer 2 (culletref02): Log and Row, and the tables' Row (gf8): contracts, by walks. -/
import Derived.Test.YtgmoaemkdoeeiaaR2
import Derived.Test.YtgmoaemkdoeeiaaWr
import Derived.Test.YtgmoaemkdoeeiaaTb
import Derived.Test.YtgmoaemkdoeeiaaGa
namespace Go.Proofs.Ytgmoaemkdoeeiaa.R2
set_option linter.unusedSimpArgs false
set_option linter.unusedVariables false
open Go Go.RowKit Go.Proofs.Ytgmoaemkdoeeiaa Go.Proofs.Ytgmoaemkdoeeiaa.Mm Go.Proofs.Ytgmoaemkdoeeiaa.Wr

/-- The row of products. -/
def rowL (c : Nat) : List Nat := (List.range 256).map (Gf.gm c)
theorem rowL_length (c : Nat) : (rowL c).length = 256 := by simp [rowL]
theorem getD_map_range {f : Nat → Nat} {n i : Nat} (h : i < n) : ((List.range n).map f).getD i 0 = f i := by simp [h]
theorem rowL_get {c i : Nat} (h : i < 256) : (rowL c).getD i 0 = Gf.gm c i := getD_map_range h

set_option maxRecDepth 100000 in
set_option maxHeartbeats 1000000 in
theorem row_calls (c : Nat) (w : World) (hc : c < 256) :
    Calls Try.prog 23 #[.int .u8 c] w fun e w' => e = .returned (.slice (some ⟨w.heap.size, 0, none⟩) 256 256) ∧ Bytes w' w.heap.size (rowL c) ∧ Below w.heap.size w w' := by
  go_enter Try.func23, Try.ntmps23
  go_wp2_with ((with_reducible refine at_slot (N := 5) rfl ?_); refine ev rfl (make_run 23 5 _ _ .u8 .i64 .i64 256 256 1 rfl rfl rfl Try.underlying23 info_u8 (by decide) (by decide) (by decide)) ?_)
  go_loopw [4] (fun vi wr => ∃ i : Nat, i ≤ 256 ∧ vi = .int .i64 i ∧ Bytes wr w.heap.size (fill (Gf.gm c) 256 i) ∧ Below w.heap.size w wr) (fun vi _ => 256 - (intOf vi).toNat)
  case atStart => exact ⟨0, by omega, rfl, by rw [fill_zero]; exact Blk.new _ _ _, (Below.refl _ _).alloc (Nat.le_refl _) _⟩
  case round =>
    obtain ⟨i, hi, rfl, hr, hb⟩ := hrel
    by_cases hlt : i < 256
    · have h1 := hr.cellRow (i := i) (by rw [fill_length]; exact hlt)
      have f1 := hr.free (i := i)
      have m1 : (i : Int) % 256 = i := by omega
      go_wp2_with (go_at_call 25; refine (mul_calls _ _ _ hc hlt).mono ?_; rintro e w' ⟨rfl, rfl⟩)
      go_roundw
      case rel => exact ⟨i + 1, by omega, by go_num, by rw [← fill_step hlt]; exact hr.setRow _ _, hb.setCell (Nat.le_refl _) _⟩
      case measure => simp [intOf]; omega
    · obtain rfl : i = 256 := by omega
      rw [fill_done] at hr
      go_wp2
      go_ret
      exact ⟨rfl, hr, hb⟩

end Go.Proofs.Ytgmoaemkdoeeiaa.R2
namespace Go.Proofs.Ytgmoaemkdoeeiaa.G8
open Go Go.RowKit Go.Proofs.Ytgmoaemkdoeeiaa Go.Proofs.Ytgmoaemkdoeeiaa.Mm Go.Proofs.Ytgmoaemkdoeeiaa.Wr Go.Proofs.Ytgmoaemkdoeeiaa.R2

end Go.Proofs.Ytgmoaemkdoeeiaa.G8
