/- Layer 7: the document's Word and Columns; the laws' helpers for words. -/
import Derived.Test.YtcjcolmhhbnmgaaSx
namespace Go.Proofs.Ytcjcolmhhbnmgaa.Sl
set_option linter.unusedSimpArgs false
set_option linter.unusedVariables false
open Go Go.RowKit Go.Proofs.Ytcjcolmhhbnmgaa Go.Proofs.Ytcjcolmhhbnmgaa.Mm Go.Proofs.Ytcjcolmhhbnmgaa.Gf Go.Proofs.Ytcjcolmhhbnmgaa.Wr Go.Proofs.Ytcjcolmhhbnmgaa.St Go.Proofs.Ytcjcolmhhbnmgaa.Wd

set_option maxRecDepth 100000 in
set_option maxHeartbeats 4000000 in
theorem rword_calls (c v : Nat) (w : World) (hc : c < 256) (hv : v < 18446744073709551616) :
    Calls Try.prog 45 #[.int .u8 (c : Int), .int .u64 (v : Int)] w fun e w' => e = .returned (.int .u64 ((W8 ((b8 v).map (gm c)) : Nat) : Int)) ∧ w = w' := by
  obtain ⟨M, HM⟩ : ∃ M, Hid ((b8 v).map (gm c) = M) := ⟨_, Lib.hid rfl⟩
  have ML : Hid (M.length = 8) := Lib.hid (by rw [← HM.out, List.length_map, b8_length])
  have MB : Hid (B8 M) := Lib.hid (by rw [← HM.out]; exact map_b8 hc)
  have MG : Hid (∀ k, k < 8 → M.getD k 0 = gm c (v / 2 ^ (8 * k) % 256)) := Lib.hid (fun k hk => by rw [← HM.out]; simp [b8, hk])
  rw [HM.out]
  go_enter Try.func45, Try.ntmps45
  go_wp2_with fail
  go_loopw [5, 6] (fun vp vi wr => ∃ k : Nat, k ≤ 8 ∧ vi = .int .i64 k ∧ vp = .int .u64 ((W8 (M.take k) : Nat) : Int) ∧ wr = w) (fun _ vi _ => 8 - (intOf vi).toNat)
  case atStart => exact ⟨0, by omega, rfl, rfl, rfl⟩
  case round =>
    obtain ⟨k, hk, rfl, rfl, rfl⟩ := hrel
    by_cases hlt : k < 8
    · have e1 := Lib.hid (W8_take_succ MB.out (k := k) (by rw [ML.out]; exact hlt))
      rw [MG.out k hlt] at e1
      have w1 := W8_take_lt MB.out k hk
      generalize W8 (M.take k) = p at *
      obtain ⟨x, hx⟩ : ∃ x, v / 2 ^ (8 * k) % 256 = x := ⟨_, rfl⟩
      have hx8 : x < 256 := by omega
      have HX := Lib.hid hx
      rw [hx] at e1
      have f0 : (v : Int) / 2 ^ (8 * k) % 256 = (x : Int) := by rw [← hx]; simp
      clear hx
      have hg := gm_lt x hc
      have ylt := shl_lt hg hlt
      obtain ⟨y, HY⟩ : ∃ y, Hid (gm c x = y) := ⟨_, Lib.hid rfl⟩
      have MC : Hid (∀ W : World, Calls Try.prog 37 #[.int .u8 (c : Int), .int .u8 (x : Int)] W fun e w' => e = .returned (.int .u8 (y : Int)) ∧ W = w') := Lib.hid (fun W => by
        have := R2.mul_calls c x W hc hx8
        rw [HY.out] at this; exact this)
      rw [HY.out] at hg ylt e1
      have f1 : IntKind.u64.wrap ((y : Int) * 2 ^ (8 * k)) = ((y * 2 ^ (8 * k) : Nat) : Int) := by
        rw [show (y : Int) * 2 ^ (8 * k) = ((y * 2 ^ (8 * k) : Nat) : Int) from by simp]; exact Bt.wrap_u64 _ (by omega) (by omega)
      obtain ⟨z, HZ⟩ : ∃ z, Hid (y * 2 ^ (8 * k) = z) := ⟨_, Lib.hid rfl⟩
      rw [HZ.out] at f1 ylt e1
      have f2 : Go.bits .or .u64 (p : Int) (z : Int) = ((p ||| z : Nat) : Int) := Bt.or64 w1 ylt
      go_wp2_with fail
      refine (MC.out _).mono ?_
      rintro e _ ⟨rfl, rfl⟩
      go_wp2_with fail
      rw [e1.out]
      refine ⟨⟨k + 1, by omega, by simp, rfl, trivial⟩, ?_⟩
      simp [intOf]; omega
    · obtain rfl : k = 8 := by omega
      rw [List.take_of_length_le (by rw [ML.out]; exact Nat.le_refl _)]
      go_wp2_with fail
      go_ret
      exact ⟨rfl, rfl⟩

set_option maxRecDepth 100000 in
set_option maxHeartbeats 4000000 in
theorem rcolumns_st (c : Nat) (w : World) (hc : c < 256) :
    Calls Try.prog 27 #[.int .u8 (c : Int)] w fun e w' => ∃ b, e = .returned (.slice (some ⟨b, 0, none⟩) 8 8) ∧ St w w' [] [bt b (cols c)] := by
  have S0 := Lib.hid (St.start w)
  go_enter Try.func27, Try.ntmps27
  go_wp2_with ((with_reducible refine at_slot (N := 5) rfl ?_); refine make_law rfl 22 5 _ .u8 (8) 1 rfl rfl Try.underlying22 info_u8 (by omega) (by omega) S0.out ?_; intro b w1 h1; (try simp only [World.size_alloc, List.nil_append, List.cons_append, List.append_eq] at h1); have S1 := Lib.hid h1; clear h1 S0)
  have H1 : Hid (St w w1 [] [bt b (fill (fun k => gm c (2 ^ k)) 8 0)]) := Lib.hid (by have := S1.out; rw [fill_zero]; exact this)
  clear S1
  go_loopw [4] (fun vi wr => ∃ k : Nat, k ≤ 8 ∧ vi = .int .i64 k ∧ St w wr [] [bt b (fill (fun k => gm c (2 ^ k)) 8 k)]) (fun vi _ => 8 - (intOf vi).toNat)
  case atStart => exact ⟨0, by omega, rfl, H1.out⟩
  case round =>
    clear H1
    obtain ⟨k, hk, rfl, hs⟩ := hrel
    have S2 := Lib.hid hs; clear hs
    by_cases hlt : k < 8
    · have m1 := (S2.out.blk mem0).cellRow (i := k) (by rw [fill_length]; exact hlt)
      have f1 := (S2.out.blk mem0).free (i := k)
      generalize (fill (fun k => gm c (2 ^ k)) 8 k).getD k 0 = z at *
      have j2 : 2 ^ k < 256 := Nat.lt_of_le_of_lt (Nat.pow_le_pow_right (n := 2) (i := k) (j := 7) (by decide) (by omega)) (by decide)
      have HST := Lib.hid (fill_step (f := fun k => gm c (2 ^ k)) hlt)
      obtain ⟨x, HX⟩ : ∃ x, Hid (2 ^ k = x) := ⟨_, Lib.hid rfl⟩
      have e2 : IntKind.u8.wrap (2 ^ k) = (x : Int) := by
        rw [show (2 : Int) ^ k = ((2 ^ k : Nat) : Int) from by simp, HX.out]; exact Bt.wu8 (by rw [← HX.out]; exact j2)
      have e2' : (2 : Int) ^ k % 256 = (x : Int) := by
        have := e2; rw [IntKind.wrap_u8] at this; exact this
      have HS' : Hid ((fill (fun k => gm c (2 ^ k)) 8 k).set k (gm c x) = fill (fun k => gm c (2 ^ k)) 8 (k + 1)) := Lib.hid (by rw [← HST.out, HX.out])
      rw [HX.out] at j2
      clear HST HX
      have k1 : (k : Int) < 8 := by omega
      go_wp2_with fail
      refine (R2.mul_calls c x _ hc j2).mono ?_
      rintro e _ ⟨rfl, rfl⟩
      clear e2 e2'
      go_wp2_with fail
      have S3 := Lib.hid (S2.out.setRow (N1 := []) k (gm c x))
      rw [HS'.out] at S3
      refine ⟨⟨k + 1, by omega, by simp, S3.out⟩, ?_⟩
      simp [intOf]; omega
    · obtain rfl : k = 8 := by omega
      rw [fill_done] at S2
      go_wp2_with fail
      go_ret
      exact ⟨b, rfl, S2.out⟩

set_option maxRecDepth 100000 in
set_option maxHeartbeats 1000000 in
theorem samew_st {A1 A2 : Option Addr} {m c1 c2 : Nat} {l : List Nat} {w : World} (hm : l.length = m) (hl : m ≤ 281474976710656) (h1 : RdV e64 w A1 l) (h2 : RdV e64 w A2 l) :
    Calls Try.prog 26 #[.slice A1 m c1, .slice A2 m c2] w fun e w' => e = .returned (.bool true) ∧ St w w' [] [] := by
  have H1 := Lib.hid h1; have H2 := Lib.hid h2; have HM := Lib.hid hm
  clear h1 h2 hm
  have S0 := Lib.hid (St.start w)
  go_enter Try.func26, Try.ntmps26
  go_wp2
  go_loopw [5] (fun vi wr => ∃ i : Nat, i ≤ m ∧ vi = .int .i64 i ∧ ∃ n, wr = w.drewN n) (fun vi _ => m - (intOf vi).toNat)
  case atStart => exact ⟨0, by omega, rfl, 0, rfl⟩
  case round =>
    obtain ⟨i, hi, rfl, n, rfl⟩ := hrel
    by_cases hlt : i < m
    · obtain ⟨b1, o1, e1, k1⟩ := H1.out (by rw [HM.out]; omega)
      obtain ⟨b2, o2, e2, k2⟩ := H2.out (by rw [HM.out]; omega)
      subst e1 e2
      obtain ⟨x, hx⟩ : ∃ x, l[i]? = some x := ⟨l[i]'(by rw [HM.out]; exact hlt), by simp⟩
      have m1 : w.cell? ⟨b1, o1 + i, none⟩ = some (.int .u64 (x : Int)) := k1 i x hx
      have m2 : w.cell? ⟨b2, o2 + i, none⟩ = some (.int .u64 (x : Int)) := k2 i x hx
      clear k1 k2 H1 H2 hx
      go_wp2
      go_quiet (fail)
      go_wp2
      go_roundw
      case rel => exact ⟨i + 1, by omega, by go_num, _, rfl⟩
      case measure => simp [intOf]; omega
    · clear H1 H2
      go_wp2
      go_ret
      exact ⟨rfl, S0.out.drewN⟩

end Go.Proofs.Ytcjcolmhhbnmgaa.Sl
