/- Layer 7 (sliced): columns, the kernel's run. -/
import Derived.Test.YtdbfkjhdnbmpeaaSl
import Derived.Laws.Rows
namespace Go.Proofs.Ytdbfkjhdnbmpeaa.Sl
set_option linter.unusedSimpArgs false
set_option linter.unusedVariables false
open Go Go.RowKit Go.Proofs.Ytdbfkjhdnbmpeaa Go.Proofs.Ytdbfkjhdnbmpeaa.Mm Go.Proofs.Ytdbfkjhdnbmpeaa.Gf Go.Proofs.Ytdbfkjhdnbmpeaa.Wr Go.Proofs.Ytdbfkjhdnbmpeaa.St Go.Proofs.Ytdbfkjhdnbmpeaa.Wd

theorem gm_twice : ∀ k : Fin 7, gm (2 ^ k.val) 2 = 2 ^ (k.val + 1) := by decide +kernel
theorem gm_next {c k : Nat} (hc : c < 256) (hk : k < 7) : gm (gm c (2 ^ k)) 2 = gm c (2 ^ (k + 1)) := by
  rw [gm_assoc hc (by have := Nat.pow_lt_pow_right (a := 2) (by decide) (show k < 8 by omega); exact this) (by decide), gm_twice ⟨k, hk⟩]
theorem cols_step {c k : Nat} (h : k < 8) : (fill (fun k => gm c (2 ^ k)) 8 k).set k (gm c (2 ^ k)) = fill (fun k => gm c (2 ^ k)) 8 (k + 1) := fill_step (f := fun k => gm c (2 ^ k)) h

set_option maxRecDepth 100000 in
set_option maxHeartbeats 2000000 in
theorem columns_q (c : Nat) (w : World) (hc : c < 256) : Calls Try.prog 80 #[.int .u8 c] w fun e w' => e = .returned (.agg (row .u8 (cols c))) ∧ St w w' [] [] := by
  have e0 : (Value.agg (Array.replicate 8 (.int .u8 0))).cells = row .u8 (zs 8) := by kernel_rfl
  go_enter Try.func80, Try.ntmps80
  go_wp2_with (first
    | ((with_reducible refine at_slot (N := 2) rfl ?_); refine ev rfl (alloc_run _ (.agg (Array.replicate 8 (.int .u8 0))) (row .u8 (zs 8)) rfl (by kernel_rfl) e0) ?_)
    | ((with_reducible refine at_slot (N := 3) rfl ?_); refine ev rfl (alloc_run _ (.agg (Array.replicate 8 (.int .u8 0))) (row .u8 (zs 8)) rfl (by kernel_rfl) e0) ?_))
  have h0 := ((St.start w).alloc 138 (row .u8 (zs 8))).alloc 138 (row .u8 (zs 8))
  have S0 := Lib.hid h0; clear h0 e0
  go_loopw [0, 5] (fun vc vj wq => ∃ k x : Nat, k ≤ 8 ∧ x < 256 ∧ (k < 8 → x = gm c (2 ^ k)) ∧ vj = .int .i64 k ∧ vc = .int .u8 x ∧ St w wq [] [⟨w.heap.size + 1, 138, row .u8 (fill (fun k => gm c (2 ^ k)) 8 k)⟩, ⟨w.heap.size, 138, row .u8 (zs 8)⟩]) (fun _ vj _ => 8 - (intOf vj).toNat)
  case atStart => exact ⟨0, c, by omega, hc, fun _ => by rw [Nat.pow_zero, gm_comm hc (by decide), one_gm hc], rfl, rfl, by rw [fill_zero]; simpa [zs] using S0.out⟩
  case round =>
    clear S0
    obtain ⟨k, x, hk, hx, hxe, rfl, rfl, hs⟩ := hrel
    have S1 := Lib.hid hs; clear hs
    have HX := Lib.hid hxe; clear hxe
    by_cases hlt : k < 8
    · have hl : k < (fill (fun k => gm c (2 ^ k)) 8 k).length := by rw [fill_length]; exact hlt
      have m4 := (S1.out.blk mem0).cellRow (i := k) hl
      have f4 := (S1.out.blk mem0).free (i := k)
      generalize (fill (fun k => gm c (2 ^ k)) 8 k).getD k 0 = y at *
      go_wp2_with fail
      refine (G8.mul_any _ _ _ (by omega) (by omega) (by decide) (by decide)).mono ?_
      rintro e _ ⟨rfl, rfl⟩
      go_wp2_with fail
      refine ⟨⟨k + 1, gm x 2, by omega, gm_lt _ hx, fun h7 => by rw [HX.out hlt, gm_next hc (by omega)], by simp, by simp, ?_⟩, ?_⟩
      · rw [← cols_step hlt, ← HX.out hlt]
        exact S1.out.setRow (N1 := []) _ _
      · show 8 - ((k : Int) + 1).toNat < 8 - (k : Int).toNat
        omega
    · obtain rfl : k = 8 := by omega
      rw [fill_done] at S1
      have HS := Lib.hid (S1.out.blk mem0)
      have HR := Lib.hid (S1.out.blk mem1)
      have e1 : (row .u8 (cols c)).size = 8 := by rw [row_size, cols_length]
      have HS' : Hid (Blk wr (w.heap.size + 1) 138 (row .u8 (cols c))) := HS
      go_wp2_with (first
        | ((with_reducible refine at_slot (N := 14) rfl ?_); refine wpList_load_row rfl _ _ rfl (w.heap.size + 1) rfl _ (row .u8 (cols c)) _ (.array 8 5) HS'.out (by kernel_rfl) rfl (by rw [e1]; kernel_rfl) ?_)
        | ((with_reducible refine at_store (p := 2) rfl ?_); refine store_blk rfl _ _ _ rfl w.heap.size (row .u8 (cols c)) rfl rfl _ _ HR.out (by rw [e1]; kernel_rfl) (by rw [e1]; rfl) (row_all _ _) ?_; intro w2 hs2 hk2))
      have S2 := Lib.hid (S1.out.callN (N1 := [_]) (St.of_but hk2 hs2 HR.out.lt))
      refine bodyPost_ret (results_cell_row rfl _ _ w.heap.size _ (row .u8 (cols c)) _ (.array 8 5) rfl hs2 (by kernel_rfl) rfl (by rw [e1]; kernel_rfl)) rfl ⟨rfl, S2.out.nil⟩

end Go.Proofs.Ytdbfkjhdnbmpeaa.Sl
