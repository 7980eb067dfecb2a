/- The law NibbleBack of layer 6: its walk. -/
import Derived.Test.YthfenafhdigniaaNs
import Derived.Test.YthfenafhdigniaaG9
namespace Go.Proofs.Ythfenafhdigniaa.L6
open Go Go.RowKit Go.Proofs.Ythfenafhdigniaa Go.Proofs.Ythfenafhdigniaa.Mm Go.Proofs.Ythfenafhdigniaa.Gf Go.Proofs.Ythfenafhdigniaa.Wr Go.Proofs.Ythfenafhdigniaa.Nb Go.Proofs.Ythfenafhdigniaa.St

theorem xs_map0 {D l : List Nat} : xs D (l.map (gm 0)) = D := by
  apply List.ext_getElem?
  intro i
  by_cases hi : i < D.length
  · by_cases hj : i < l.length
    · simp [xs, hi, hj, gm_zero_left]
    · simp [xs, hi, hj]
  · simp [xs, hi]

theorem inv_z' {c : Nat} (h : c = 0) (w : World) : Calls Try.prog 25 #[.int .u8 (c : Int)] w fun e w' => e = .returned (.tuple #[.int .u8 0, .int .i64 20]) ∧ w = w' := by
  subst h; exact inv_z w

set_option maxRecDepth 100000 in
set_option maxHeartbeats 4000000 in
theorem back_walk (c : Nat) (A : Option Addr) (n cp : Nat) (l : List Nat) (A2 : Option Addr) (n2 cp2 : Nat) (o : List Nat) (w : World) (hc : c < 256) (h : (Kk.kSlice Kk.kByte 1).ok w.heap.size w [.slice A n cp] l) (h2 : (Kk.kSlice Kk.kByte 1).ok w.heap.size w [.slice A2 n2 cp2] o) :
    Calls Try.prog 9 #[.int .u8 c, .slice A n cp, .slice A2 n2 cp2] w fun e w' => e = .returned (.bool true) ∧ Below w.heap.size w w' := by
  obtain ⟨hn, hn2, _, hr, h8, _⟩ := open_bytes h
  obtain ⟨ho, ho2, _, hor, ho8, _⟩ := open_bytes h2
  clear h h2
  have hn3 : n ≤ 281474976710656 := by omega
  have HN := Lib.hid hn; have HR := Lib.hid hr; have H8 := Lib.hid h8
  have HO := Lib.hid ho; have HOR := Lib.hid hor; have HO8 := Lib.hid ho8
  clear hn hr h8 ho hor ho8
  have S0 := Lib.hid (St.start w)
  by_cases h0 : c = 0
  case' pos =>
    have g0 : ((c : Int) != 0) = false := by rw [bne_eq_false_iff_eq]; omega
    have H0 := Lib.hid h0
    clear h0
    go_enter Try.func9, Try.ntmps9
    go_wp2_with fail
    refine (new_st _).mono ?_
    rintro e w1 ⟨p, rfl, hh⟩
    have h1 := S0.out.call hh; clear hh S0
    try simp only [List.nil_append, List.cons_append, Int.toNat_natCast] at h1
    have S1 := Lib.hid h1; clear h1
    go_wp2_with fail
    refine (fixed_st _).mono ?_
    rintro e w2 ⟨rfl, hh⟩
    have h2 := S1.out.call hh; clear hh S1
    try simp only [List.nil_append, List.cons_append, Int.toNat_natCast] at h2
    have S2 := Lib.hid h2; clear h2
    go_wp2_with fail
    refine (inv_z' H0.out _).mono ?_
    rintro e _ ⟨rfl, rfl⟩
    go_wp2_with fail
    refine (copied_st HN.out hn3 (S2.out.ext HR.out)).mono ?_
    rintro e w3 ⟨t1, rfl, hh⟩
    have h3 := S2.out.call hh; clear hh S2
    try simp only [List.nil_append, List.cons_append, Int.toNat_natCast] at h3
    have S3 := Lib.hid h3; clear h3
    obtain ⟨w6, rfl⟩ : ∃ w6 : World, w6 = w3 := ⟨_, rfl⟩
    have S6 := S3; clear S3
    go_wp2_with ((with_reducible refine at_slot (N := 58) rfl ?_); refine ev rfl (make_run 22 5 _ _ .u8 .i64 .i64 n n 1 rfl rfl rfl Try.underlying22 info_u8 (Nat.le_refl _) (by omega) (by omega)) ?_)
    clear g0 H0
  case' neg =>
    have g0 : ((c : Int) == 0) = false := beq_eq_false_iff_ne.mpr (by omega)
    have hp := pw_lt hc 254
    have HB := Lib.hid (map_back hc h0 H8.out)
    go_enter Try.func9, Try.ntmps9
    go_wp2_with fail
    refine (new_st _).mono ?_
    rintro e w1 ⟨p, rfl, hh⟩
    have h1 := S0.out.call hh; clear hh S0
    try simp only [List.nil_append, List.cons_append, Int.toNat_natCast] at h1
    have S1 := Lib.hid h1; clear h1
    go_wp2_with fail
    refine (fixed_st _).mono ?_
    rintro e w2 ⟨rfl, hh⟩
    have h2 := S1.out.call hh; clear hh S1
    try simp only [List.nil_append, List.cons_append, Int.toNat_natCast] at h2
    have S2 := Lib.hid h2; clear h2
    go_wp2_with fail
    refine (inv_nz c _ hc h0).mono ?_
    rintro e _ ⟨rfl, rfl⟩
    go_wp2_with fail
    refine (copied_st HN.out hn3 (S2.out.ext HR.out)).mono ?_
    rintro e w3 ⟨t1, rfl, hh⟩
    have h3 := S2.out.call hh; clear hh S2
    try simp only [List.nil_append, List.cons_append, Int.toNat_natCast] at h3
    have S3 := Lib.hid h3; clear h3
    go_wp2_with fail
    refine (mul_st (by omega) (by omega) (S3.out.blk mem0) HN.out HN.out H8.out H8.out hn3 (S3.out.rd mem0)).mono ?_
    rintro e w4 ⟨rfl, hh⟩
    have h4 := S3.out.callN (N1 := []) hh; clear hh S3
    try simp only [List.nil_append, List.cons_append, Int.toNat_natCast] at h4
    have S4 := Lib.hid h4; clear h4
    go_wp2_with fail
    refine (mul_st (by omega) (by omega) (S4.out.blk mem0) (by rw [List.length_map]; exact HN.out) (by rw [List.length_map]; exact HN.out) (map_b8 hc) (map_b8 hc) hn3 (S4.out.rd mem0)).mono ?_
    rintro e w5 ⟨rfl, hh⟩
    have h5 := S4.out.callN (N1 := []) hh; clear hh S4
    try simp only [List.nil_append, List.cons_append, Int.toNat_natCast] at h5
    rw [HB.out] at h5; clear HB g0
    have S5 := Lib.hid h5; clear h5
    go_wp2_with fail
    refine (equal_st HN.out hn3 (S5.out.rd mem0) (S5.out.ext HR.out)).mono ?_
    rintro e w6 ⟨rfl, hh⟩
    have h6 := S5.out.call hh; clear hh S5
    try simp only [List.nil_append, List.cons_append, Int.toNat_natCast] at h6
    have S6 := Lib.hid h6; clear h6
    go_wp2_with ((with_reducible refine at_slot (N := 58) rfl ?_); refine ev rfl (make_run 22 5 _ _ .u8 .i64 .i64 n n 1 rfl rfl rfl Try.underlying22 info_u8 (Nat.le_refl _) (by omega) (by omega)) ?_)
  all_goals
    go_loopw [61] (fun vi wr => ∃ i : Nat, i ≤ n ∧ vi = .int .i64 i ∧ St w wr [] [bt w6.heap.size (fill (fun i => o.getD i 0) n i), bt t1 l]) (fun vi _ => n - (intOf vi).toNat)
    case atStart => exact ⟨0, by omega, rfl, by rw [fill_zero]; exact S6.out.alloc _ _⟩
    case round =>
      clear S6
      obtain ⟨i, hi, rfl, hs⟩ := hrel
      have S7 := Lib.hid hs
      clear hs
      by_cases hlt : i < n
      · by_cases ho : i < n2
        · obtain ⟨b2, o2, e2, k2⟩ := (S7.out.ext HOR.out) (by rw [HO.out]; omega)
          have m2 := k2 i (by rw [HO.out]; exact ho)
          subst e2
          have m1 := (S7.out.blk mem0).cellRow (i := i) (by rw [fill_length]; exact hlt)
          have f1 := (S7.out.blk mem0).free (i := i)
          clear k2
          obtain ⟨x, hx⟩ : ∃ x, o.getD i 0 = x := ⟨_, rfl⟩
          rw [hx] at m2
          have HX := Lib.hid hx
          clear hx
          generalize (fill (fun i => o.getD i 0) n i).getD i 0 = y at m1
          go_wp2_with fail
          go_roundw
          case rel => exact ⟨i + 1, by omega, by go_num, by have := S7.out.setRow (N1 := []) i x; rw [← HX.out, fill_step (f := fun i => o.getD i 0) hlt, HX.out] at this; exact this⟩
          case measure => simp [intOf]; omega
        · go_wp2_with fail
          go_roundw
          case rel => exact ⟨i + 1, by omega, by go_num, by have := S7.out; rw [fill_skip (f := fun i => o.getD i 0) (by show o.getD i 0 = 0; rw [List.getD_eq_getElem?_getD, List.getElem?_eq_none (by have := HO.out; omega)]; rfl)] at this; exact this⟩
          case measure => simp [intOf]; omega
      · obtain rfl : n = i := by omega
        obtain ⟨D, HD⟩ : ∃ D, Hid (fill (fun i => o.getD i 0) n n = D) := ⟨_, Lib.hid rfl⟩
        rw [HD.out] at S7
        have HDN : Hid (D.length = n) := Lib.hid (by rw [← HD.out, fill_length])
        have HD8 : Hid (B8 D) := Lib.hid (by rw [← HD.out]; exact fill_b8 HO8.out)
        have HLN : Hid ((l.map (gm c)).length = n) := Lib.hid (by rw [List.length_map, HN.out])
        have HXN : Hid ((xs D (l.map (gm c))).length = n) := Lib.hid (by rw [xs_length, HDN.out])
        have hm8 : B8 (l.map (gm c)) := map_b8 hc
        have HX8 := Lib.hid (xs_b8 HD8.out hm8 (by rw [HDN.out, HLN.out])); have HM8 := Lib.hid hm8
        clear hm8
        go_wp2_with fail
        refine (copied_st HDN.out hn3 (S7.out.rd mem0)).mono ?_
        rintro e w8 ⟨d1, rfl, hh⟩
        have h8 := S7.out.call hh; clear hh S7
        try simp only [List.nil_append, List.cons_append, Int.toNat_natCast] at h8
        have S8 := Lib.hid h8; clear h8
        go_wp2_with fail
        refine (add_st (by omega) (by omega) (S8.out.blk mem0) HDN.out HN.out H8.out HD8.out hn3 (S8.out.rd mem2)).mono ?_
        rintro e w9 ⟨rfl, hh⟩
        have h9 := S8.out.callN (N1 := []) hh; clear hh S8
        try simp only [List.nil_append, List.cons_append, Int.toNat_natCast] at h9
        have S9 := Lib.hid h9; clear h9
        go_wp2_with fail
        refine (times_st (by omega) (by omega) HN.out hn3 (S9.out.ext HR.out) H8.out).mono ?_
        rintro e w10 ⟨b10, rfl, hh⟩
        have h10 := S9.out.call hh; clear hh S9
        try simp only [List.nil_append, List.cons_append, Int.toNat_natCast] at h10
        have S10 := Lib.hid h10; clear h10
        go_wp2_with fail
        refine (sum_st HDN.out HLN.out hn3 (S10.out.rd mem2) (S10.out.rd mem0) HD8.out HM8.out).mono ?_
        rintro e w11 ⟨b11, rfl, hh⟩
        have h11 := S10.out.call hh; clear hh S10
        try simp only [List.nil_append, List.cons_append, Int.toNat_natCast] at h11
        have S11 := Lib.hid h11; clear h11
        go_wp2_with fail
        refine (equal_st HXN.out hn3 (S11.out.rd mem2) (S11.out.rd mem0)).mono ?_
        rintro e w12 ⟨rfl, hh⟩
        have h12 := S11.out.call hh; clear hh S11
        try simp only [List.nil_append, List.cons_append, Int.toNat_natCast] at h12
        have S12 := Lib.hid h12; clear h12
        go_wp2_with fail
        refine (add_st (by omega) (by omega) (S12.out.blk mem2) HXN.out HN.out H8.out HX8.out hn3 (S12.out.rd mem4)).mono ?_
        rintro e w13 ⟨rfl, hh⟩
        have h13 := S12.out.callN (N1 := [_, _]) hh; clear hh S12
        try simp only [List.nil_append, List.cons_append, Int.toNat_natCast] at h13
        rw [xs_twice (by rw [HLN.out, HDN.out])] at h13
        have S13 := Lib.hid h13; clear h13
        go_wp2_with fail
        refine (equal_st HDN.out hn3 (S13.out.rd mem2) (S13.out.rd mem3)).mono ?_
        rintro e w14 ⟨rfl, hh⟩
        have h14 := S13.out.call hh; clear hh S13
        try simp only [List.nil_append, List.cons_append, Int.toNat_natCast] at h14
        have S14 := Lib.hid h14; clear h14
        go_wp2_with fail
        go_ret
        exact ⟨rfl, S14.out.below⟩

end Go.Proofs.Ythfenafhdigniaa.L6
