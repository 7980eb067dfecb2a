/- The law NibbleCalls of layer 6: its walk. -/
import Derived.Test.YthfenafhdigniaaN6
namespace Go.Proofs.Ythfenafhdigniaa.L6
open Go Go.RowKit Go.Proofs.Ythfenafhdigniaa Go.Proofs.Ythfenafhdigniaa.Mm Go.Proofs.Ythfenafhdigniaa.Gf Go.Proofs.Ythfenafhdigniaa.Wr Go.Proofs.Ythfenafhdigniaa.Nb Go.Proofs.Ythfenafhdigniaa.St

set_option maxRecDepth 100000 in
set_option maxHeartbeats 4000000 in
theorem calls_walk (c : Nat) (A : Option Addr) (n cp : Nat) (l : List Nat) (A2 : Option Addr) (n2 cp2 : Nat) (o : List Nat) (w : World) (hc : c < 256) (h : (Kk.kSlice Kk.kByte 1).ok w.heap.size w [.slice A n cp] l) (h2 : (Kk.kSlice Kk.kByte 1).ok w.heap.size w [.slice A2 n2 cp2] o) :
    Calls Try.prog 6 #[.int .u8 c, .slice A n cp, .slice A2 n2 cp2] w fun e w' => e = .returned (.bool true) ∧ Below w.heap.size w w' := by
  obtain ⟨hn, hn2, _, hr, h8, _⟩ := open_bytes h
  obtain ⟨ho, ho2, _, hor, ho8, _⟩ := open_bytes h2
  clear h h2
  have hn3 : n ≤ 281474976710656 := by omega
  have ho3 : n2 ≤ 281474976710656 := by omega
  have HN := Lib.hid hn; have HR := Lib.hid hr; have H8 := Lib.hid h8
  have HO := Lib.hid ho; have HOR := Lib.hid hor; have HO8 := Lib.hid ho8
  clear hn hr h8 ho hor ho8
  have S0 := Lib.hid (St.start w)
  by_cases heq : n = n2
  · obtain rfl : n2 = n := heq.symm
    clear heq
    have HLM : Hid ((o.map (gm c)).length = n2) := Lib.hid (by rw [List.length_map, HO.out])
    have HXN : Hid ((xs l (o.map (gm c))).length = n2) := Lib.hid (by rw [xs_length, HN.out])
    go_enter Try.func6, Try.ntmps6
    go_wp2_with fail
    refine (fixed_st _).mono ?_
    rintro e w1 ⟨rfl, hh⟩
    have h1 := S0.out.call hh; clear hh S0
    try simp only [List.nil_append, List.cons_append, List.append_eq, Int.toNat_natCast] at h1
    have S1 := Lib.hid h1; clear h1
    go_wp2_with fail
    refine (copied_st HN.out hn3 (S1.out.ext HR.out)).mono ?_
    rintro e w2 ⟨x1, rfl, hh⟩
    have h2 := S1.out.call hh; clear hh S1
    try simp only [List.nil_append, List.cons_append, List.append_eq, Int.toNat_natCast] at h2
    have S2 := Lib.hid h2; clear h2
    go_wp2_with fail
    refine (copied_st HO.out hn3 (S2.out.ext HOR.out)).mono ?_
    rintro e w3 ⟨y1, rfl, hh⟩
    have h3 := S2.out.call hh; clear hh S2
    try simp only [List.nil_append, List.cons_append, List.append_eq, Int.toNat_natCast] at h3
    have S3 := Lib.hid h3; clear h3
    go_wp2_with fail
    refine (mul_nil _ _ _ _).mono ?_
    rintro e _ ⟨rfl, rfl⟩
    go_wp2_with fail
    refine (add_nil _ _ _ _).mono ?_
    rintro e _ ⟨rfl, rfl⟩
    go_wp2_with fail
    refine (equal_st HN.out hn3 (S3.out.rd mem1) (S3.out.ext HR.out)).mono ?_
    rintro e w4 ⟨rfl, hh⟩
    have h4 := S3.out.call hh; clear hh S3
    try simp only [List.nil_append, List.cons_append, List.append_eq, Int.toNat_natCast] at h4
    have S4 := Lib.hid h4; clear h4
    go_wp2_with fail
    refine (equal_st HO.out hn3 (S4.out.rd mem0) (S4.out.ext HOR.out)).mono ?_
    rintro e w5 ⟨rfl, hh⟩
    have h5 := S4.out.call hh; clear hh S4
    try simp only [List.nil_append, List.cons_append, List.append_eq, Int.toNat_natCast] at h5
    have S5 := Lib.hid h5; clear h5
    go_wp2_with fail
    refine (new_st _).mono ?_
    rintro e w6 ⟨p, rfl, hh⟩
    have h6 := S5.out.call hh; clear hh S5
    try simp only [List.nil_append, List.cons_append, List.append_eq, Int.toNat_natCast] at h6
    have S6 := Lib.hid h6; clear h6
    go_wp2_with fail
    refine (copied_st HN.out hn3 (S6.out.ext HR.out)).mono ?_
    rintro e w7 ⟨d1, rfl, hh⟩
    have h7 := S6.out.call hh; clear hh S6
    try simp only [List.nil_append, List.cons_append, List.append_eq, Int.toNat_natCast] at h7
    have S7 := Lib.hid h7; clear h7
    go_wp2_with fail
    refine (copied_st HO.out hn3 (S7.out.ext HOR.out)).mono ?_
    rintro e w8 ⟨s1, rfl, hh⟩
    have h8 := S7.out.call hh; clear hh S7
    try simp only [List.nil_append, List.cons_append, List.append_eq, Int.toNat_natCast] at h8
    have S8 := Lib.hid h8; clear h8
    go_wp2_with fail
    refine (ref_mul c _ _ _ _ _ l o _ hc HO.out hn2 (S8.out.ext HOR.out) HO8.out).mono ?_
    rintro e w9 ⟨A9, c9, m9, G9, hm9, rfl, hs, hg⟩
    obtain rfl : n2 = m9 := by rw [hm9]; exact (HLM.out).symm
    clear hm9
    have h9 := S8.out.callR hs; have HG9 := Lib.hid hg; clear hs hg S8
    try simp only [List.nil_append, List.cons_append, List.append_eq, List.append_nil, Int.toNat_natCast] at h9
    have S9 := Lib.hid h9; clear h9
    go_wp2_with fail
    refine (mul_st (by omega) (by omega) (S9.out.blk mem1) HN.out HO.out HO8.out H8.out hn3 (S9.out.rd mem0)).mono ?_
    rintro e w10 ⟨rfl, hh⟩
    have h10 := S9.out.callN (N1 := [_]) hh; clear hh S9
    try simp only [List.nil_append, List.cons_append, List.append_eq, Int.toNat_natCast] at h10
    have S10 := Lib.hid h10; clear h10
    go_wp2_with fail
    refine (equal_st HLM.out hn3 (S10.out.rd mem1) (HG9.out.read S10.out (fun e he => by simp [he]))).mono ?_
    rintro e w11 ⟨rfl, hh⟩
    have h11 := S10.out.call hh; clear hh S10
    try simp only [List.nil_append, List.cons_append, List.append_eq, Int.toNat_natCast] at h11
    have S11 := Lib.hid h11; clear h11
    go_wp2_with fail
    refine (equal_st HO.out hn3 (S11.out.rd mem0) (S11.out.ext HOR.out)).mono ?_
    rintro e w12 ⟨rfl, hh⟩
    have h12 := S11.out.call hh; clear hh S11
    try simp only [List.nil_append, List.cons_append, List.append_eq, Int.toNat_natCast] at h12
    have S12 := Lib.hid h12; clear h12
    go_wp2_with fail
    refine (copied_st HN.out hn3 (S12.out.ext HR.out)).mono ?_
    rintro e w13 ⟨d2, rfl, hh⟩
    have h13 := S12.out.call hh; clear hh S12
    try simp only [List.nil_append, List.cons_append, List.append_eq, Int.toNat_natCast] at h13
    have S13 := Lib.hid h13; clear h13
    go_wp2_with fail
    refine (ref_add c _ _ _ _ _ l o _ hc HN.out HO.out hn2 (S13.out.ext HR.out) (S13.out.ext HOR.out) H8.out HO8.out).mono ?_
    rintro e w14 ⟨A14, c14, m14, G14, hm14, rfl, hs, hg⟩
    obtain rfl : n2 = m14 := by rw [hm14]; exact (HXN.out).symm
    clear hm14
    have h14 := S13.out.callR hs; have HG14 := Lib.hid hg; clear hs hg S13
    try simp only [List.nil_append, List.cons_append, List.append_eq, List.append_nil, Int.toNat_natCast] at h14
    have S14 := Lib.hid h14; clear h14
    go_wp2_with fail
    refine (add_st (by omega) (by omega) (S14.out.blk mem0) HN.out HO.out HO8.out H8.out hn3 (S14.out.rd mem1)).mono ?_
    rintro e w15 ⟨rfl, hh⟩
    have h15 := S14.out.callN (N1 := []) hh; clear hh S14
    try simp only [List.nil_append, List.cons_append, List.append_eq, Int.toNat_natCast] at h15
    have S15 := Lib.hid h15; clear h15
    go_wp2_with fail
    refine (equal_st HXN.out hn3 (S15.out.rd mem0) (HG14.out.read S15.out (fun e he => by simp [he]))).mono ?_
    rintro e w16 ⟨rfl, hh⟩
    have h16 := S15.out.call hh; clear hh S15
    try simp only [List.nil_append, List.cons_append, List.append_eq, Int.toNat_natCast] at h16
    have S16 := Lib.hid h16; clear h16
    go_wp2_with fail
    refine (equal_st HO.out hn3 (S16.out.rd mem1) (S16.out.ext HOR.out)).mono ?_
    rintro e w17 ⟨rfl, hh⟩
    have h17 := S16.out.call hh; clear hh S16
    try simp only [List.nil_append, List.cons_append, List.append_eq, Int.toNat_natCast] at h17
    have S17 := Lib.hid h17; clear h17
    go_wp2_with fail
    go_ret
    exact ⟨rfl, S17.out.below⟩
  · have HE := Lib.hid heq
    clear heq
    go_enter Try.func6, Try.ntmps6
    go_wp2_with fail
    refine (fixed_st _).mono ?_
    rintro e w1 ⟨rfl, hh⟩
    have h1 := S0.out.call hh; clear hh S0
    try simp only [List.nil_append, List.cons_append, List.append_eq, Int.toNat_natCast] at h1
    have S1 := Lib.hid h1; clear h1
    go_wp2_with fail
    refine (copied_st HN.out hn3 (S1.out.ext HR.out)).mono ?_
    rintro e w2 ⟨x1, rfl, hh⟩
    have h2 := S1.out.call hh; clear hh S1
    try simp only [List.nil_append, List.cons_append, List.append_eq, Int.toNat_natCast] at h2
    have S2 := Lib.hid h2; clear h2
    go_wp2_with fail
    refine (copied_st HO.out ho3 (S2.out.ext HOR.out)).mono ?_
    rintro e w3 ⟨y1, rfl, hh⟩
    have h3 := S2.out.call hh; clear hh S2
    try simp only [List.nil_append, List.cons_append, List.append_eq, Int.toNat_natCast] at h3
    have S3 := Lib.hid h3; clear h3
    go_wp2_with fail
    refine (mul_nil _ _ _ _).mono ?_
    rintro e _ ⟨rfl, rfl⟩
    go_wp2_with fail
    refine (add_nil _ _ _ _).mono ?_
    rintro e _ ⟨rfl, rfl⟩
    go_wp2_with fail
    refine (equal_st HN.out hn3 (S3.out.rd mem1) (S3.out.ext HR.out)).mono ?_
    rintro e w4 ⟨rfl, hh⟩
    have h4 := S3.out.call hh; clear hh S3
    try simp only [List.nil_append, List.cons_append, List.append_eq, Int.toNat_natCast] at h4
    have S4 := Lib.hid h4; clear h4
    go_wp2_with fail
    refine (equal_st HO.out ho3 (S4.out.rd mem0) (S4.out.ext HOR.out)).mono ?_
    rintro e w5 ⟨rfl, hh⟩
    have h5 := S4.out.call hh; clear hh S4
    try simp only [List.nil_append, List.cons_append, List.append_eq, Int.toNat_natCast] at h5
    have S5 := Lib.hid h5; clear h5
    go_wp2_with fail
    refine (new_st _).mono ?_
    rintro e w6 ⟨p, rfl, hh⟩
    have h6 := S5.out.call hh; clear hh S5
    try simp only [List.nil_append, List.cons_append, List.append_eq, Int.toNat_natCast] at h6
    have S6 := Lib.hid h6; clear h6
    go_wp2_with fail
    refine (copied_st HN.out hn3 (S6.out.ext HR.out)).mono ?_
    rintro e w7 ⟨d1, rfl, hh⟩
    have h7 := S6.out.call hh; clear hh S6
    try simp only [List.nil_append, List.cons_append, List.append_eq, Int.toNat_natCast] at h7
    have S7 := Lib.hid h7; clear h7
    go_wp2_with fail
    refine (copied_st HO.out ho3 (S7.out.ext HOR.out)).mono ?_
    rintro e w8 ⟨s1, rfl, hh⟩
    have h8 := S7.out.call hh; clear hh S7
    try simp only [List.nil_append, List.cons_append, List.append_eq, Int.toNat_natCast] at h8
    have S8 := Lib.hid h8; clear h8
    go_wp2_with fail
    refine (ref_mul_lens _ _ _ _ _ _ _ l _ HN.out hn2 (S8.out.ext HR.out) H8.out HE.out).mono ?_
    rintro e w9 ⟨A9, c9, m9, G9, hm9, rfl, hs, hg⟩
    obtain rfl : n = m9 := by rw [hm9]; exact (HN.out).symm
    clear hm9
    have h9 := S8.out.callR hs; have HG9 := Lib.hid hg; clear hs hg S8
    try simp only [List.nil_append, List.cons_append, List.append_eq, List.append_nil, Int.toNat_natCast] at h9
    have S9 := Lib.hid h9; clear h9
    go_wp2_with fail
    refine (mul_lens _ _ _ _ _ _ _ _ _ HE.out).mono ?_
    rintro e _ ⟨rfl, rfl⟩
    go_wp2_with fail
    refine (equal_st HN.out hn3 (S9.out.rd mem1) (HG9.out.read S9.out (fun e he => by simp [he]))).mono ?_
    rintro e w10 ⟨rfl, hh⟩
    have h10 := S9.out.call hh; clear hh S9
    try simp only [List.nil_append, List.cons_append, List.append_eq, Int.toNat_natCast] at h10
    have S10 := Lib.hid h10; clear h10
    go_wp2_with fail
    refine (equal_st HO.out ho3 (S10.out.rd mem0) (S10.out.ext HOR.out)).mono ?_
    rintro e w11 ⟨rfl, hh⟩
    have h11 := S10.out.call hh; clear hh S10
    try simp only [List.nil_append, List.cons_append, List.append_eq, Int.toNat_natCast] at h11
    have S11 := Lib.hid h11; clear h11
    go_wp2_with fail
    refine (copied_st HN.out hn3 (S11.out.ext HR.out)).mono ?_
    rintro e w12 ⟨d2, rfl, hh⟩
    have h12 := S11.out.call hh; clear hh S11
    try simp only [List.nil_append, List.cons_append, List.append_eq, Int.toNat_natCast] at h12
    have S12 := Lib.hid h12; clear h12
    go_wp2_with fail
    refine (ref_add_lens _ _ _ _ _ _ _ l _ HN.out hn2 (S12.out.ext HR.out) H8.out HE.out).mono ?_
    rintro e w13 ⟨A13, c13, m13, G13, hm13, rfl, hs, hg⟩
    obtain rfl : n = m13 := by rw [hm13]; exact (HN.out).symm
    clear hm13
    have h13 := S12.out.callR hs; have HG13 := Lib.hid hg; clear hs hg S12
    try simp only [List.nil_append, List.cons_append, List.append_eq, List.append_nil, Int.toNat_natCast] at h13
    have S13 := Lib.hid h13; clear h13
    go_wp2_with fail
    refine (add_lens _ _ _ _ _ _ _ _ _ HE.out).mono ?_
    rintro e _ ⟨rfl, rfl⟩
    go_wp2_with fail
    refine (equal_st HN.out hn3 (S13.out.rd mem0) (HG13.out.read S13.out (fun e he => by simp [he]))).mono ?_
    rintro e w14 ⟨rfl, hh⟩
    have h14 := S13.out.call hh; clear hh S13
    try simp only [List.nil_append, List.cons_append, List.append_eq, Int.toNat_natCast] at h14
    have S14 := Lib.hid h14; clear h14
    go_wp2_with fail
    refine (equal_st HO.out ho3 (S14.out.rd mem1) (S14.out.ext HOR.out)).mono ?_
    rintro e w15 ⟨rfl, hh⟩
    have h15 := S14.out.call hh; clear hh S14
    try simp only [List.nil_append, List.cons_append, List.append_eq, Int.toNat_natCast] at h15
    have S15 := Lib.hid h15; clear h15
    go_wp2_with fail
    go_ret
    exact ⟨rfl, S15.out.below⟩

end Go.Proofs.Ythfenafhdigniaa.L6
