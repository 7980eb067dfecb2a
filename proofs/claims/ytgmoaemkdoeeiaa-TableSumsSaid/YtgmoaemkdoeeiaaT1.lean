/- The law TableSums of layer 5: its walk. -/
import Derived.Test.YtgmoaemkdoeeiaaH5
namespace Go.Proofs.Ytgmoaemkdoeeiaa.L5t
open Go Go.RowKit Go.Proofs.Ytgmoaemkdoeeiaa Go.Proofs.Ytgmoaemkdoeeiaa.Mm Go.Proofs.Ytgmoaemkdoeeiaa.Gf Go.Proofs.Ytgmoaemkdoeeiaa.Wr Go.Proofs.Ytgmoaemkdoeeiaa.St Go.Proofs.Ytgmoaemkdoeeiaa.Tk

set_option maxRecDepth 100000 in
set_option maxHeartbeats 4000000 in
theorem sums_walk (c d : Nat) (A : Option Addr) (n1 c1 : Nat) (x : List Nat) (A2 : Option Addr) (n2 c2 : Nat) (y : List Nat) (w : World) (hc : c < 256) (hd : d < 256) (h : (Kk.kSlice Kk.kByte 1).ok w.heap.size w [.slice A n1 c1] x) (h2 : (Kk.kSlice Kk.kByte 1).ok w.heap.size w [.slice A2 n2 c2] y) :
    Calls Try.prog 4 #[.int .u8 c, .int .u8 d, .slice A n1 c1, .slice A2 n2 c2] w fun e w' => e = .returned (.bool true) ∧ Below w.heap.size w w' := by
  obtain ⟨hn, hn1, hcap1, hr, h8, _⟩ := open_bytes h
  obtain ⟨ho, hn2, hcap2, hor, ho8, _⟩ := open_bytes h2
  clear h h2
  have HN := Lib.hid hn; have HR := Lib.hid hr; have H8 := Lib.hid h8
  have HO := Lib.hid ho; have HOR := Lib.hid hor; have HO8 := Lib.hid ho8
  clear hn hr h8 ho hor ho8
  obtain ⟨n, hn⟩ : ∃ n, n = min n1 n2 := ⟨_, rfl⟩
  have HM := Lib.hid hn
  have k1 : n ≤ n1 := by omega
  have k2 : n ≤ n2 := by omega
  have hn3 : n ≤ 281474976710656 := by omega
  have k3 : (n : Int) ≤ (c1 : Int) := by omega
  have k4 : (n : Int) ≤ (c2 : Int) := by omega
  have k5 : (0 : Int) ≤ (n : Int) := by omega
  have key : (n2 < n1 ∧ n2 = n) ∨ (¬ n2 < n1 ∧ n1 = n) := by omega
  clear hn
  obtain ⟨X, hX⟩ : ∃ X, X = x.take n := ⟨_, rfl⟩
  obtain ⟨Y, hY⟩ : ∃ Y, Y = y.take n := ⟨_, rfl⟩
  have HXN : Hid (X.length = n) := Lib.hid (by rw [hX, List.length_take, HN.out]; omega)
  have HYN : Hid (Y.length = n) := Lib.hid (by rw [hY, List.length_take, HO.out]; omega)
  have HX8 : Hid (B8 X) := Lib.hid (by rw [hX]; exact H8.out.take n)
  have HY8 : Hid (B8 Y) := Lib.hid (by rw [hY]; exact HO8.out.take n)
  have HXR : Hid (Rd w A X) := Lib.hid (by have := HR.out.cut n1 0 n (by rw [HN.out]; exact Nat.le_refl _); rw [cutA_zero, List.drop_zero] at this; rw [hX]; exact this)
  have HYR : Hid (Rd w A2 Y) := Lib.hid (by have := HOR.out.cut n2 0 n (by rw [HO.out]; exact Nat.le_refl _); rw [cutA_zero, List.drop_zero] at this; rw [hY]; exact this)
  have HX := Lib.hid hX; have HY := Lib.hid hY
  clear hX hY
  have HXM : Hid ((X.map (gm c)).length = n) := Lib.hid (by rw [List.length_map, HXN.out])
  have HXD : Hid ((X.map (gm d)).length = n) := Lib.hid (by rw [List.length_map, HXN.out])
  have HYM : Hid ((Y.map (gm c)).length = n) := Lib.hid (by rw [List.length_map, HYN.out])
  have HXY : Hid ((xs X Y).length = n) := Lib.hid (by rw [xs_length, HXN.out])
  have HXYM : Hid (((xs X Y).map (gm c)).length = n) := Lib.hid (by rw [List.length_map, HXY.out])
  have HXY8 : Hid (B8 (xs X Y)) := Lib.hid (xs_b8 HX8.out HY8.out (by rw [HXN.out, HYN.out]))
  have HZ : Hid ((zs n).length = n) := Lib.hid (zs_length n)
  have m8c : Hid (∀ l : List Nat, B8 (l.map (gm c))) := Lib.hid (fun l => map_b8 hc)
  have E1 : Hid (xs (X.map (gm c)) (Y.map (gm c)) = (xs X Y).map (gm c)) := Lib.hid (map_xs (gm c) X Y (by rw [HXN.out, HYN.out]) (gm_right c))
  have E2 : Hid (X.map (gm (c ^^^ d)) = xs (X.map (gm c)) (X.map (gm d))) := Lib.hid (map_left hc hd)
  have HXCD : Hid ((xs (X.map (gm c)) (X.map (gm d))).length = n) := Lib.hid (by rw [xs_length, HXM.out])
  have HYX : Hid ((xs Y (X.map (gm c))).length = n) := Lib.hid (by rw [xs_length, HYN.out])
  have HYX8 : Hid (B8 (xs Y (X.map (gm c)))) := Lib.hid (xs_b8 HY8.out (m8c.out _) (by rw [HXM.out, HYN.out]))
  have x1 : Go.bits .xor .u8 (c : Int) (d : Int) = ((c ^^^ d : Nat) : Int) := Bt.xor8 hc hd
  have hcd : c ^^^ d < 256 := xor_lt hc hd
  have S0 := Lib.hid (St.start w)
  rcases key with ⟨hcmp, he⟩ | ⟨hcmp, he⟩
  all_goals
    replace he := congrArg (Nat.cast (R := Int)) he
    go_enter Try.func4, Try.ntmps4
    go_wp2_with fail
    refine (awake_st _).mono ?_
    rintro e w1 ⟨kb, rfl, hh⟩
    have h1 := S0.out.call hh; clear hh S0
    try simp only [List.nil_append, List.cons_append, List.append_eq, Int.toNat_natCast] at h1
    have S1 := Lib.hid h1; clear h1
    go_wp2_with fail
    refine (sum_st HN.out HO.out HM.out hn1 (S1.out.ext HR.out) (S1.out.ext HOR.out) H8.out HO8.out).mono ?_
    rintro e w2 ⟨xy, rfl, hh⟩
    have h2 := S1.out.call hh; clear hh S1
    try simp only [List.nil_append, List.cons_append, List.append_eq, Int.toNat_natCast] at h2
    rw [← HX.out, ← HY.out] at h2
    have S2 := Lib.hid h2; clear h2
    clear he hcmp
    go_wp2_with fail
    refine (zeros_st hn3).mono ?_
    rintro e w3 ⟨a1, rfl, hh⟩
    have h3 := S2.out.call hh; clear hh S2
    try simp only [List.nil_append, List.cons_append, List.append_eq, Int.toNat_natCast] at h3
    have S3 := Lib.hid h3; clear h3
    go_wp2_with fail
    refine (zeros_st hn3).mono ?_
    rintro e w4 ⟨b1, rfl, hh⟩
    have h4 := S3.out.call hh; clear hh S3
    try simp only [List.nil_append, List.cons_append, List.append_eq, Int.toNat_natCast] at h4
    have S4 := Lib.hid h4; clear h4
    go_wp2_with fail
    refine (zeros_st hn3).mono ?_
    rintro e w5 ⟨s1, rfl, hh⟩
    have h5 := S4.out.call hh; clear hh S4
    try simp only [List.nil_append, List.cons_append, List.append_eq, Int.toNat_natCast] at h5
    have S5 := Lib.hid h5; clear h5
    go_wp2_with fail
    refine (mul_st (by omega) (by omega) (S5.out.blk mem4) (S5.out.blk mem2) HZ.out HXY.out HXY8.out (zs_b8 n) hn3 (S5.out.rd mem3) (S5.out.ne 4 2 rfl rfl (by decide))).mono ?_
    rintro e w6 ⟨rfl, hh⟩
    have h6 := S5.out.callN (N1 := [_, _]) hh; clear hh S5
    try simp only [List.nil_append, List.cons_append, List.append_eq, Int.toNat_natCast] at h6
    have S6 := Lib.hid h6; clear h6
    go_wp2_with fail
    refine (mul_st (by omega) (by omega) (S6.out.blk mem4) (S6.out.blk mem1) HZ.out HXN.out HX8.out (zs_b8 n) hn3 (S6.out.ext HXR.out) (S6.out.ne 4 1 rfl rfl (by decide))).mono ?_
    rintro e w7 ⟨rfl, hh⟩
    have h7 := S6.out.callN (N1 := [_]) hh; clear hh S6
    try simp only [List.nil_append, List.cons_append, List.append_eq, Int.toNat_natCast] at h7
    have S7 := Lib.hid h7; clear h7
    go_wp2_with fail
    refine (add_st (by omega) (by omega) (S7.out.blk mem4) (S7.out.blk mem1) HXM.out HYN.out HY8.out (m8c.out _) hn3 (S7.out.ext HYR.out) (S7.out.ne 4 1 rfl rfl (by decide))).mono ?_
    rintro e w8 ⟨rfl, hh⟩
    have h8 := S7.out.callN (N1 := [_]) hh; clear hh S7
    try simp only [List.nil_append, List.cons_append, List.append_eq, Int.toNat_natCast] at h8
    rw [E1.out] at h8
    have S8 := Lib.hid h8; clear h8
    go_wp2_with fail
    refine (equal_st HXYM.out hn3 (S8.out.rd mem2) (S8.out.rd mem1)).mono ?_
    rintro e w9 ⟨rfl, hh⟩
    have h9 := S8.out.call hh; clear hh S8
    try simp only [List.nil_append, List.cons_append, List.append_eq, Int.toNat_natCast] at h9
    have S9 := Lib.hid h9; clear h9
    go_wp2_with fail
    refine (mul_st (by omega) (by omega) (S9.out.blk mem4) (S9.out.blk mem2) HXYM.out HXN.out HX8.out (m8c.out _) hn3 (S9.out.ext HXR.out) (S9.out.ne 4 2 rfl rfl (by decide))).mono ?_
    rintro e w10 ⟨rfl, hh⟩
    have h10 := S9.out.callN (N1 := [_, _]) hh; clear hh S9
    try simp only [List.nil_append, List.cons_append, List.append_eq, Int.toNat_natCast] at h10
    have S10 := Lib.hid h10; clear h10
    go_wp2_with fail
    refine (add_st (by omega) (by omega) (S10.out.blk mem4) (S10.out.blk mem2) HXM.out HXN.out HX8.out (m8c.out _) hn3 (S10.out.ext HXR.out) (S10.out.ne 4 2 rfl rfl (by decide))).mono ?_
    rintro e w11 ⟨rfl, hh⟩
    have h11 := S10.out.callN (N1 := [_, _]) hh; clear hh S10
    try simp only [List.nil_append, List.cons_append, List.append_eq, Int.toNat_natCast] at h11
    have S11 := Lib.hid h11; clear h11
    go_wp2_with fail
    refine (mul_st (by omega) (by omega) (S11.out.blk mem4) (S11.out.blk mem0) HZ.out HXN.out HX8.out (zs_b8 n) hn3 (S11.out.ext HXR.out) (S11.out.ne 4 0 rfl rfl (by decide))).mono ?_
    rintro e w12 ⟨rfl, hh⟩
    have h12 := S11.out.callN (N1 := []) hh; clear hh S11
    try simp only [List.nil_append, List.cons_append, List.append_eq, Int.toNat_natCast] at h12
    rw [E2.out] at h12
    have S12 := Lib.hid h12; clear h12
    go_wp2_with fail
    refine (equal_st HXCD.out hn3 (S12.out.rd mem2) (S12.out.rd mem0)).mono ?_
    rintro e w13 ⟨rfl, hh⟩
    have h13 := S12.out.call hh; clear hh S12
    try simp only [List.nil_append, List.cons_append, List.append_eq, Int.toNat_natCast] at h13
    have S13 := Lib.hid h13; clear h13
    go_wp2_with ((with_reducible refine at_slot (N := 102) rfl ?_); refine copy_bytes (N1 := [_, _]) rfl _ _ rfl a1 0 n n _ _ S13.out rfl A2 n2 c2 rfl Y (by rw [HYN.out]; show n = min n2 n; omega) (S13.out.ext HYR.out) (by rw [HYN.out, HXCD.out]; omega) ?_; intro w14 hs; rw [wr_all _ _ (by rw [HXCD.out, HYN.out])] at hs; have S14 := Lib.hid hs; clear hs S13)
    refine (add_st (by omega) (by omega) (S14.out.blk mem4) (S14.out.blk mem2) HYN.out HXN.out HX8.out HY8.out hn3 (S14.out.ext HXR.out) (S14.out.ne 4 2 rfl rfl (by decide))).mono ?_
    rintro e w15 ⟨rfl, hh⟩
    have h15 := S14.out.callN (N1 := [_, _]) hh; clear hh S14
    try simp only [List.nil_append, List.cons_append, List.append_eq, Int.toNat_natCast] at h15
    have S15 := Lib.hid h15; clear h15
    go_wp2_with fail
    refine (add_st (by omega) (by omega) (S15.out.blk mem4) (S15.out.blk mem2) HYX.out HXN.out HX8.out HYX8.out hn3 (S15.out.ext HXR.out) (S15.out.ne 4 2 rfl rfl (by decide))).mono ?_
    rintro e w16 ⟨rfl, hh⟩
    have h16 := S15.out.callN (N1 := [_, _]) hh; clear hh S15
    try simp only [List.nil_append, List.cons_append, List.append_eq, Int.toNat_natCast] at h16
    rw [xs_twice (by rw [HXM.out, HYN.out])] at h16
    have S16 := Lib.hid h16; clear h16
    go_wp2_with fail
    refine (equal_st HYN.out hn3 (S16.out.rd mem2) (S16.out.ext HYR.out)).mono ?_
    rintro e w17 ⟨rfl, hh⟩
    have h17 := S16.out.call hh; clear hh S16
    try simp only [List.nil_append, List.cons_append, List.append_eq, Int.toNat_natCast] at h17
    have S17 := Lib.hid h17; clear h17
    go_wp2_with fail
    go_ret
    exact ⟨rfl, S17.out.below⟩

end Go.Proofs.Ytgmoaemkdoeeiaa.L5t
