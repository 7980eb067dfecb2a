/- Layer 7: the laws' 'slices': one Mul or MulAdd, laid among marks: each case of it (printed by gen/mk_s7.py). -/
import Derived.Test.YtcjcolmhhbnmgaaSy
namespace Go.Proofs.Ytcjcolmhhbnmgaa.Sl
set_option linter.unusedSimpArgs false
set_option linter.unusedVariables false
open Go Go.RowKit Go.Proofs.Ytcjcolmhhbnmgaa Go.Proofs.Ytcjcolmhhbnmgaa.Mm Go.Proofs.Ytcjcolmhhbnmgaa.Gf Go.Proofs.Ytcjcolmhhbnmgaa.Wr Go.Proofs.Ytcjcolmhhbnmgaa.St Go.Proofs.Ytcjcolmhhbnmgaa.Wd

theorem add_list {X D l : List Nat} {c n : Nat} (hX : (X.drop 3).take n = D) (hD : D.length = n) (hl : l.length = n) : ((List.range l.length).map fun i => X.getD (3 + i) 0 ^^^ gm c (l.getD i 0)) = xs D (l.map (gm c)) := by
  have hg : ∀ i, i < n → X.getD (3 + i) 0 = D.getD i 0 := fun i hi => by
    rw [← hX]; simp [List.getElem?_take, hi]
  apply ext8
  · simp [xs_length, hD, hl]
  · intro i hi
    have hi' : i < n := by simpa [hl] using hi
    rw [xs_get (by rw [hD]; exact hi')]
    have : i < l.length := by omega
    have h2 := hg i hi'
    simp only [List.getD_eq_getElem?_getD] at h2 ⊢
    simp [this, h2]

set_option maxRecDepth 100000 in
set_option maxHeartbeats 4000000 in
theorem sl_mul_two_eq (p : Addr) (kind : Int) (c : Nat) (A1 : Option Addr) (n c1 : Nat) (D : List Nat) (A2 : Option Addr) (c2 : Nat) (l : List Nat) (W : Int) (A3 : Option Addr) (n3 c3 : Nat) (w : World) (hc : c < 256) (hD : D.length = n) (hl : l.length = n) (hn1 : n ≤ 140737488351232) (hn : n ≤ 140737488351232) (h1 : Rd w A1 D) (h2 : Rd w A2 l) (h81 : B8 D) (h82 : B8 l) (hkind : kind ≠ 2) :
    Calls Try.prog 44 #[.pointer (some p), .agg #[.int .i64 kind, .int .u8 c, .slice A1 n c1, .slice A2 n c2, .int .u64 W, .slice A3 n3 c3, .bool false]] w fun e w' => e = .returned (.bool true) ∧ St w w' [] [] := by
  have HD := Lib.hid hD; have HL := Lib.hid hl; have R1 := Lib.hid h1; have R2 := Lib.hid h2; have H81 := Lib.hid h81; have H82 := Lib.hid h82
  have hk : (kind == 2) = false := beq_eq_false_iff_ne.2 hkind
  clear hkind
  clear hD hl h1 h2 h81 h82
  have hn3 : n ≤ 281474976710656 := by omega
  have SA := Lib.hid (St.start w)
  have HVN : Hid ((l.map (gm c)).length = n) := Lib.hid (by rw [List.length_map, HL.out])
  go_enter Try.func44, Try.ntmps44
  go_wp2_with ((with_reducible refine at_slot (N := 3) rfl ?_); refine box_law rfl 72 _ _ rfl rfl SA.out ?_; intro ob w0 hs; have SB := Lib.hid hs; clear hs SA; have oc0 := (SB.out.blk mem0).cell (i := 0) rfl; have oc1 := (SB.out.blk mem0).cell (i := 1) rfl; have oc2 := (SB.out.blk mem0).cell (i := 2) rfl; have oc3 := (SB.out.blk mem0).cell (i := 3) rfl; have oc6 := (SB.out.blk mem0).cell (i := 6) rfl; have hob := (SB.out.blk mem0).lt; have S0 := Lib.hid (St.start w0))
  have R1' := Lib.hid (SB.out.ext R1.out); have R2' := Lib.hid (SB.out.ext R2.out)
  obtain ⟨rc0, rf0⟩ := S0.out.rules
  go_wp2_with fail
  clear rc0 rf0
  refine (roomy_st HL.out hn (S0.out.ext R2'.out) H82.out).mono ?_
  rintro e w1 ⟨bs, Ds, rfl, hEs, hPs, hs8, hsm, hh⟩
  have h1 := S0.out.call hh; clear hh S0
  try simp only [List.nil_append, List.cons_append, List.append_eq, Int.toNat_natCast] at h1
  have HEs := Lib.hid hEs; have HPs := Lib.hid hPs; have HS8 := Lib.hid hs8; clear hEs hPs hs8
  have S1 := Lib.hid h1; clear h1
  obtain ⟨rc1, rf1⟩ := S1.out.rules
  go_wp2_with fail
  clear rc1 rf1
  refine (roomy_st HD.out hn1 (S1.out.ext R1'.out) H81.out).mono ?_
  rintro e w2 ⟨bd, Dd, rfl, hEd, hPd, hd8, hdm, hh⟩
  have h2 := S1.out.call hh; clear hh S1
  try simp only [List.nil_append, List.cons_append, List.append_eq, Int.toNat_natCast] at h2
  have HEd := Lib.hid hEd; have HPd := Lib.hid hPd; have HD8 := Lib.hid hd8; clear hEd hPd hd8
  have S2 := Lib.hid h2; clear h2
  obtain ⟨rc2, rf2⟩ := S2.out.rules
  have hds : n + 15 ≤ Ds.length := HEs.out.1
  have hdd : n + 15 ≤ Dd.length := HEd.out.1
  go_wp2_with fail
  clear rc2 rf2
  refine (ref_mul_eq c _ _ _ _ _ D l _ hc HD.out HL.out hn (piece_rd S2.out mem0 HPd.out) (piece_rd S2.out mem1 HPs.out) H81.out H82.out).mono ?_
  rintro e w3 ⟨A3, c3, m3, G3, hm3, rfl, hs, hg⟩
  obtain rfl : n = m3 := by rw [hm3]; exact (HVN.out).symm
  clear hm3
  have h3 := S2.out.callR hs; have HG3 := Lib.hid hg; clear hs hg S2
  try simp only [List.nil_append, List.cons_append, List.append_eq, List.append_nil, Int.toNat_natCast] at h3
  have S3 := Lib.hid h3; clear h3
  obtain ⟨rc3, rf3⟩ := S3.out.rules
  go_wp2_with fail
  clear rc3 rf3
  refine (mul_at (od := 3) (by omega) (by omega) (S3.out.blk mem0) (by omega) HL.out H82.out HD8.out (by omega) (by omega) hn3 (Srcs.other (piece_rd S3.out mem1 HPs.out) (fun a h => by injection h with h; rw [← h]; exact S3.out.ne 1 0 rfl rfl (by decide)))).mono ?_
  rintro e w4 ⟨rfl, hh⟩
  have h4 := S3.out.callN (N1 := []) hh; clear hh S3
  try simp only [List.nil_append, List.cons_append, List.append_eq, Int.toNat_natCast] at h4
  skip
  have S4 := Lib.hid h4; clear h4
  obtain ⟨rc4, rf4⟩ := S4.out.rules
  go_wp2_with fail
  clear rc4 rf4
  refine (same_st HVN.out hn3 (S4.out.rdWr mem0 (by rw [HVN.out]; omega)) (HG3.out.read S4.out (fun e he => by simp [he]))).mono ?_
  rintro e w5 ⟨rfl, hh⟩
  have h5 := S4.out.call hh; clear hh S4
  try simp only [List.nil_append, List.cons_append, List.append_eq, Int.toNat_natCast] at h5
  have S5 := Lib.hid h5; clear h5
  obtain ⟨rc5, rf5⟩ := S5.out.rules
  go_wp2_with fail
  refine (edges_st (S5.out.blk mem0) (edg_wr HEd.out HVN.out) hn).mono ?_
  rintro e _ ⟨rfl, rfl⟩
  go_wp2_with fail
  refine (edges_st (S5.out.blk mem1) HEs.out hn).mono ?_
  rintro e _ ⟨rfl, rfl⟩
  go_wp2_with fail
  clear rc5 rf5
  refine (same_st HL.out (by omega) (piece_rd S5.out mem1 HPs.out) (S5.out.ext R2'.out)).mono ?_
  rintro e w6 ⟨rfl, hh⟩
  have h6 := S5.out.call hh; clear hh S5
  try simp only [List.nil_append, List.cons_append, List.append_eq, Int.toNat_natCast] at h6
  have S6 := Lib.hid h6; clear h6
  obtain ⟨rc6, rf6⟩ := S6.out.rules
  go_wp2_with fail
  go_ret
  exact ⟨rfl, (SB.out.call S6.out).nil⟩

set_option maxRecDepth 100000 in
set_option maxHeartbeats 4000000 in
theorem sl_mul_two_ne (p : Addr) (kind : Int) (c : Nat) (A1 : Option Addr) (n c1 : Nat) (D : List Nat) (A2 : Option Addr) (m c2 : Nat) (l : List Nat) (W : Int) (A3 : Option Addr) (n3 c3 : Nat) (w : World) (hc : c < 256) (hD : D.length = n) (hl : l.length = m) (hn1 : n ≤ 140737488351232) (hn : m ≤ 140737488351232) (h1 : Rd w A1 D) (h2 : Rd w A2 l) (h81 : B8 D) (h82 : B8 l) (hkind : kind ≠ 2) (hne : n ≠ m) :
    Calls Try.prog 44 #[.pointer (some p), .agg #[.int .i64 kind, .int .u8 c, .slice A1 n c1, .slice A2 m c2, .int .u64 W, .slice A3 n3 c3, .bool false]] w fun e w' => e = .returned (.bool true) ∧ St w w' [] [] := by
  have HD := Lib.hid hD; have HL := Lib.hid hl; have R1 := Lib.hid h1; have R2 := Lib.hid h2; have H81 := Lib.hid h81; have H82 := Lib.hid h82
  have hk : (kind == 2) = false := beq_eq_false_iff_ne.2 hkind
  clear hkind
  have HNE := Lib.hid hne
  clear hne
  clear hD hl h1 h2 h81 h82
  have hn3 : n ≤ 281474976710656 := by omega
  have SA := Lib.hid (St.start w)
  go_enter Try.func44, Try.ntmps44
  go_wp2_with ((with_reducible refine at_slot (N := 3) rfl ?_); refine box_law rfl 72 _ _ rfl rfl SA.out ?_; intro ob w0 hs; have SB := Lib.hid hs; clear hs SA; have oc0 := (SB.out.blk mem0).cell (i := 0) rfl; have oc1 := (SB.out.blk mem0).cell (i := 1) rfl; have oc2 := (SB.out.blk mem0).cell (i := 2) rfl; have oc3 := (SB.out.blk mem0).cell (i := 3) rfl; have oc6 := (SB.out.blk mem0).cell (i := 6) rfl; have hob := (SB.out.blk mem0).lt; have S0 := Lib.hid (St.start w0))
  have R1' := Lib.hid (SB.out.ext R1.out); have R2' := Lib.hid (SB.out.ext R2.out)
  obtain ⟨rc0, rf0⟩ := S0.out.rules
  go_wp2_with fail
  clear rc0 rf0
  refine (roomy_st HL.out hn (S0.out.ext R2'.out) H82.out).mono ?_
  rintro e w1 ⟨bs, Ds, rfl, hEs, hPs, hs8, hsm, hh⟩
  have h1 := S0.out.call hh; clear hh S0
  try simp only [List.nil_append, List.cons_append, List.append_eq, Int.toNat_natCast] at h1
  have HEs := Lib.hid hEs; have HPs := Lib.hid hPs; have HS8 := Lib.hid hs8; clear hEs hPs hs8
  have S1 := Lib.hid h1; clear h1
  obtain ⟨rc1, rf1⟩ := S1.out.rules
  go_wp2_with fail
  clear rc1 rf1
  refine (roomy_st HD.out hn1 (S1.out.ext R1'.out) H81.out).mono ?_
  rintro e w2 ⟨bd, Dd, rfl, hEd, hPd, hd8, hdm, hh⟩
  have h2 := S1.out.call hh; clear hh S1
  try simp only [List.nil_append, List.cons_append, List.append_eq, Int.toNat_natCast] at h2
  have HEd := Lib.hid hEd; have HPd := Lib.hid hPd; have HD8 := Lib.hid hd8; clear hEd hPd hd8
  have S2 := Lib.hid h2; clear h2
  obtain ⟨rc2, rf2⟩ := S2.out.rules
  have hds : m + 15 ≤ Ds.length := HEs.out.1
  have hdd : n + 15 ≤ Dd.length := HEd.out.1
  go_wp2_with fail
  clear rc2 rf2
  refine (ref_mul_ne c _ _ _ _ _ _ D _ HD.out hn1 (piece_rd S2.out mem0 HPd.out) H81.out HNE.out).mono ?_
  rintro e w3 ⟨A3, c3, m3, G3, hm3, rfl, hs, hg⟩
  obtain rfl : n = m3 := by rw [hm3]; exact (HD.out).symm
  clear hm3
  have h3 := S2.out.callR hs; have HG3 := Lib.hid hg; clear hs hg S2
  try simp only [List.nil_append, List.cons_append, List.append_eq, List.append_nil, Int.toNat_natCast] at h3
  have S3 := Lib.hid h3; clear h3
  obtain ⟨rc3, rf3⟩ := S3.out.rules
  go_wp2_with fail
  refine (mul_lens _ _ _ _ _ _ _ _ _ HNE.out).mono ?_
  rintro e _ ⟨rfl, rfl⟩
  go_wp2_with fail
  clear rc3 rf3
  refine (same_st HD.out hn3 (piece_rd S3.out mem0 HPd.out) (HG3.out.read S3.out (fun e he => by simp [he]))).mono ?_
  rintro e w4 ⟨rfl, hh⟩
  have h4 := S3.out.call hh; clear hh S3
  try simp only [List.nil_append, List.cons_append, List.append_eq, Int.toNat_natCast] at h4
  have S4 := Lib.hid h4; clear h4
  obtain ⟨rc4, rf4⟩ := S4.out.rules
  go_wp2_with fail
  refine (edges_st (S4.out.blk mem0) HEd.out hn1).mono ?_
  rintro e _ ⟨rfl, rfl⟩
  go_wp2_with fail
  refine (edges_st (S4.out.blk mem1) HEs.out hn).mono ?_
  rintro e _ ⟨rfl, rfl⟩
  go_wp2_with fail
  clear rc4 rf4
  refine (same_st HL.out (by omega) (piece_rd S4.out mem1 HPs.out) (S4.out.ext R2'.out)).mono ?_
  rintro e w5 ⟨rfl, hh⟩
  have h5 := S4.out.call hh; clear hh S4
  try simp only [List.nil_append, List.cons_append, List.append_eq, Int.toNat_natCast] at h5
  have S5 := Lib.hid h5; clear h5
  obtain ⟨rc5, rf5⟩ := S5.out.rules
  go_wp2_with fail
  go_ret
  exact ⟨rfl, (SB.out.call S5.out).nil⟩

set_option maxRecDepth 100000 in
set_option maxHeartbeats 4000000 in
theorem sl_add_two_eq (p : Addr) (kind : Int) (c : Nat) (A1 : Option Addr) (n c1 : Nat) (D : List Nat) (A2 : Option Addr) (c2 : Nat) (l : List Nat) (W : Int) (A3 : Option Addr) (n3 c3 : Nat) (w : World) (hc : c < 256) (hD : D.length = n) (hl : l.length = n) (hn1 : n ≤ 140737488351232) (hn : n ≤ 140737488351232) (h1 : Rd w A1 D) (h2 : Rd w A2 l) (h81 : B8 D) (h82 : B8 l) :
    Calls Try.prog 44 #[.pointer (some p), .agg #[.int .i64 2, .int .u8 c, .slice A1 n c1, .slice A2 n c2, .int .u64 W, .slice A3 n3 c3, .bool false]] w fun e w' => e = .returned (.bool true) ∧ St w w' [] [] := by
  have HD := Lib.hid hD; have HL := Lib.hid hl; have R1 := Lib.hid h1; have R2 := Lib.hid h2; have H81 := Lib.hid h81; have H82 := Lib.hid h82
  clear hD hl h1 h2 h81 h82
  have hn3 : n ≤ 281474976710656 := by omega
  have SA := Lib.hid (St.start w)
  have HVN : Hid ((xs D (l.map (gm c))).length = n) := Lib.hid (by rw [xs_length, HD.out])
  have HMN : Hid ((l.map (gm c)).length = n) := Lib.hid (by rw [List.length_map, HL.out])
  go_enter Try.func44, Try.ntmps44
  go_wp2_with ((with_reducible refine at_slot (N := 3) rfl ?_); refine box_law rfl 72 _ _ rfl rfl SA.out ?_; intro ob w0 hs; have SB := Lib.hid hs; clear hs SA; have oc0 := (SB.out.blk mem0).cell (i := 0) rfl; have oc1 := (SB.out.blk mem0).cell (i := 1) rfl; have oc2 := (SB.out.blk mem0).cell (i := 2) rfl; have oc3 := (SB.out.blk mem0).cell (i := 3) rfl; have oc6 := (SB.out.blk mem0).cell (i := 6) rfl; have hob := (SB.out.blk mem0).lt; have S0 := Lib.hid (St.start w0))
  have R1' := Lib.hid (SB.out.ext R1.out); have R2' := Lib.hid (SB.out.ext R2.out)
  obtain ⟨rc0, rf0⟩ := S0.out.rules
  go_wp2_with fail
  clear rc0 rf0
  refine (roomy_st HL.out hn (S0.out.ext R2'.out) H82.out).mono ?_
  rintro e w1 ⟨bs, Ds, rfl, hEs, hPs, hs8, hsm, hh⟩
  have h1 := S0.out.call hh; clear hh S0
  try simp only [List.nil_append, List.cons_append, List.append_eq, Int.toNat_natCast] at h1
  have HEs := Lib.hid hEs; have HPs := Lib.hid hPs; have HS8 := Lib.hid hs8; clear hEs hPs hs8
  have S1 := Lib.hid h1; clear h1
  obtain ⟨rc1, rf1⟩ := S1.out.rules
  go_wp2_with fail
  clear rc1 rf1
  refine (roomy_st HD.out hn1 (S1.out.ext R1'.out) H81.out).mono ?_
  rintro e w2 ⟨bd, Dd, rfl, hEd, hPd, hd8, hdm, hh⟩
  have h2 := S1.out.call hh; clear hh S1
  try simp only [List.nil_append, List.cons_append, List.append_eq, Int.toNat_natCast] at h2
  have HEd := Lib.hid hEd; have HPd := Lib.hid hPd; have HD8 := Lib.hid hd8; clear hEd hPd hd8
  have S2 := Lib.hid h2; clear h2
  obtain ⟨rc2, rf2⟩ := S2.out.rules
  have hds : n + 15 ≤ Ds.length := HEs.out.1
  have hdd : n + 15 ≤ Dd.length := HEd.out.1
  go_wp2_with fail
  clear rc2 rf2
  refine (ref_mul_eq c _ _ _ _ _ D l _ hc HD.out HL.out hn (piece_rd S2.out mem0 HPd.out) (piece_rd S2.out mem1 HPs.out) H81.out H82.out).mono ?_
  rintro e w3 ⟨A3, c3, m3, G3, hm3, rfl, hs, hg⟩
  obtain rfl : n = m3 := by rw [hm3]; exact (HMN.out).symm
  clear hm3
  have h3 := S2.out.callR hs; have HG3 := Lib.hid hg; clear hs hg S2
  try simp only [List.nil_append, List.cons_append, List.append_eq, List.append_nil, Int.toNat_natCast] at h3
  have S3 := Lib.hid h3; clear h3
  obtain ⟨rc3, rf3⟩ := S3.out.rules
  go_wp2_with fail
  clear rc3 rf3
  refine (ref_add_eq c _ _ _ _ _ D l _ hc HD.out HL.out hn (piece_rd S3.out mem0 HPd.out) (piece_rd S3.out mem1 HPs.out) H81.out H82.out).mono ?_
  rintro e w4 ⟨A4, c4, m4, G4, hm4, rfl, hs, hg⟩
  obtain rfl : n = m4 := by rw [hm4]; exact (HVN.out).symm
  clear hm4
  have h4 := S3.out.callR hs; have HG4 := Lib.hid hg; clear hs hg S3
  try simp only [List.nil_append, List.cons_append, List.append_eq, List.append_nil, Int.toNat_natCast] at h4
  have S4 := Lib.hid h4; clear h4
  obtain ⟨rc4, rf4⟩ := S4.out.rules
  go_wp2_with fail
  clear rc4 rf4
  refine (add_at (od := 3) (by omega) (by omega) (S4.out.blk mem0) (by omega) HL.out H82.out HD8.out (by omega) (by omega) hn3 (Srcs.other (piece_rd S4.out mem1 HPs.out) (fun a h => by injection h with h; rw [← h]; exact S4.out.ne 1 0 rfl rfl (by decide)))).mono ?_
  rintro e w5 ⟨rfl, hh⟩
  have h5 := S4.out.callN (N1 := []) hh; clear hh S4
  try simp only [List.nil_append, List.cons_append, List.append_eq, Int.toNat_natCast] at h5
  rw [add_list HPd.out HD.out HL.out] at h5
  have S5 := Lib.hid h5; clear h5
  obtain ⟨rc5, rf5⟩ := S5.out.rules
  go_wp2_with fail
  clear rc5 rf5
  refine (same_st HVN.out hn3 (S5.out.rdWr mem0 (by rw [HVN.out]; omega)) (HG4.out.read S5.out (fun e he => by simp [he]))).mono ?_
  rintro e w6 ⟨rfl, hh⟩
  have h6 := S5.out.call hh; clear hh S5
  try simp only [List.nil_append, List.cons_append, List.append_eq, Int.toNat_natCast] at h6
  have S6 := Lib.hid h6; clear h6
  obtain ⟨rc6, rf6⟩ := S6.out.rules
  go_wp2_with fail
  refine (edges_st (S6.out.blk mem0) (edg_wr HEd.out HVN.out) hn).mono ?_
  rintro e _ ⟨rfl, rfl⟩
  go_wp2_with fail
  refine (edges_st (S6.out.blk mem1) HEs.out hn).mono ?_
  rintro e _ ⟨rfl, rfl⟩
  go_wp2_with fail
  clear rc6 rf6
  refine (same_st HL.out (by omega) (piece_rd S6.out mem1 HPs.out) (S6.out.ext R2'.out)).mono ?_
  rintro e w7 ⟨rfl, hh⟩
  have h7 := S6.out.call hh; clear hh S6
  try simp only [List.nil_append, List.cons_append, List.append_eq, Int.toNat_natCast] at h7
  have S7 := Lib.hid h7; clear h7
  obtain ⟨rc7, rf7⟩ := S7.out.rules
  go_wp2_with fail
  go_ret
  exact ⟨rfl, (SB.out.call S7.out).nil⟩

set_option maxRecDepth 100000 in
set_option maxHeartbeats 4000000 in
theorem sl_add_two_ne (p : Addr) (kind : Int) (c : Nat) (A1 : Option Addr) (n c1 : Nat) (D : List Nat) (A2 : Option Addr) (m c2 : Nat) (l : List Nat) (W : Int) (A3 : Option Addr) (n3 c3 : Nat) (w : World) (hc : c < 256) (hD : D.length = n) (hl : l.length = m) (hn1 : n ≤ 140737488351232) (hn : m ≤ 140737488351232) (h1 : Rd w A1 D) (h2 : Rd w A2 l) (h81 : B8 D) (h82 : B8 l) (hne : n ≠ m) :
    Calls Try.prog 44 #[.pointer (some p), .agg #[.int .i64 2, .int .u8 c, .slice A1 n c1, .slice A2 m c2, .int .u64 W, .slice A3 n3 c3, .bool false]] w fun e w' => e = .returned (.bool true) ∧ St w w' [] [] := by
  have HD := Lib.hid hD; have HL := Lib.hid hl; have R1 := Lib.hid h1; have R2 := Lib.hid h2; have H81 := Lib.hid h81; have H82 := Lib.hid h82
  have HNE := Lib.hid hne
  clear hne
  clear hD hl h1 h2 h81 h82
  have hn3 : n ≤ 281474976710656 := by omega
  have SA := Lib.hid (St.start w)
  go_enter Try.func44, Try.ntmps44
  go_wp2_with ((with_reducible refine at_slot (N := 3) rfl ?_); refine box_law rfl 72 _ _ rfl rfl SA.out ?_; intro ob w0 hs; have SB := Lib.hid hs; clear hs SA; have oc0 := (SB.out.blk mem0).cell (i := 0) rfl; have oc1 := (SB.out.blk mem0).cell (i := 1) rfl; have oc2 := (SB.out.blk mem0).cell (i := 2) rfl; have oc3 := (SB.out.blk mem0).cell (i := 3) rfl; have oc6 := (SB.out.blk mem0).cell (i := 6) rfl; have hob := (SB.out.blk mem0).lt; have S0 := Lib.hid (St.start w0))
  have R1' := Lib.hid (SB.out.ext R1.out); have R2' := Lib.hid (SB.out.ext R2.out)
  obtain ⟨rc0, rf0⟩ := S0.out.rules
  go_wp2_with fail
  clear rc0 rf0
  refine (roomy_st HL.out hn (S0.out.ext R2'.out) H82.out).mono ?_
  rintro e w1 ⟨bs, Ds, rfl, hEs, hPs, hs8, hsm, hh⟩
  have h1 := S0.out.call hh; clear hh S0
  try simp only [List.nil_append, List.cons_append, List.append_eq, Int.toNat_natCast] at h1
  have HEs := Lib.hid hEs; have HPs := Lib.hid hPs; have HS8 := Lib.hid hs8; clear hEs hPs hs8
  have S1 := Lib.hid h1; clear h1
  obtain ⟨rc1, rf1⟩ := S1.out.rules
  go_wp2_with fail
  clear rc1 rf1
  refine (roomy_st HD.out hn1 (S1.out.ext R1'.out) H81.out).mono ?_
  rintro e w2 ⟨bd, Dd, rfl, hEd, hPd, hd8, hdm, hh⟩
  have h2 := S1.out.call hh; clear hh S1
  try simp only [List.nil_append, List.cons_append, List.append_eq, Int.toNat_natCast] at h2
  have HEd := Lib.hid hEd; have HPd := Lib.hid hPd; have HD8 := Lib.hid hd8; clear hEd hPd hd8
  have S2 := Lib.hid h2; clear h2
  obtain ⟨rc2, rf2⟩ := S2.out.rules
  have hds : m + 15 ≤ Ds.length := HEs.out.1
  have hdd : n + 15 ≤ Dd.length := HEd.out.1
  go_wp2_with fail
  clear rc2 rf2
  refine (ref_mul_ne c _ _ _ _ _ _ D _ HD.out hn1 (piece_rd S2.out mem0 HPd.out) H81.out HNE.out).mono ?_
  rintro e w3 ⟨A3, c3, m3, G3, hm3, rfl, hs, hg⟩
  obtain rfl : n = m3 := by rw [hm3]; exact (HD.out).symm
  clear hm3
  have h3 := S2.out.callR hs; have HG3 := Lib.hid hg; clear hs hg S2
  try simp only [List.nil_append, List.cons_append, List.append_eq, List.append_nil, Int.toNat_natCast] at h3
  have S3 := Lib.hid h3; clear h3
  obtain ⟨rc3, rf3⟩ := S3.out.rules
  go_wp2_with fail
  clear rc3 rf3
  refine (ref_add_ne c _ _ _ _ _ _ D _ HD.out hn1 (piece_rd S3.out mem0 HPd.out) H81.out HNE.out).mono ?_
  rintro e w4 ⟨A4, c4, m4, G4, hm4, rfl, hs, hg⟩
  obtain rfl : n = m4 := by rw [hm4]; exact (HD.out).symm
  clear hm4
  have h4 := S3.out.callR hs; have HG4 := Lib.hid hg; clear hs hg S3
  try simp only [List.nil_append, List.cons_append, List.append_eq, List.append_nil, Int.toNat_natCast] at h4
  have S4 := Lib.hid h4; clear h4
  obtain ⟨rc4, rf4⟩ := S4.out.rules
  go_wp2_with fail
  refine (add_lens _ _ _ _ _ _ _ _ _ HNE.out).mono ?_
  rintro e _ ⟨rfl, rfl⟩
  go_wp2_with fail
  clear rc4 rf4
  refine (same_st HD.out hn3 (piece_rd S4.out mem0 HPd.out) (HG4.out.read S4.out (fun e he => by simp [he]))).mono ?_
  rintro e w5 ⟨rfl, hh⟩
  have h5 := S4.out.call hh; clear hh S4
  try simp only [List.nil_append, List.cons_append, List.append_eq, Int.toNat_natCast] at h5
  have S5 := Lib.hid h5; clear h5
  obtain ⟨rc5, rf5⟩ := S5.out.rules
  go_wp2_with fail
  refine (edges_st (S5.out.blk mem0) HEd.out hn1).mono ?_
  rintro e _ ⟨rfl, rfl⟩
  go_wp2_with fail
  refine (edges_st (S5.out.blk mem1) HEs.out hn).mono ?_
  rintro e _ ⟨rfl, rfl⟩
  go_wp2_with fail
  clear rc5 rf5
  refine (same_st HL.out (by omega) (piece_rd S5.out mem1 HPs.out) (S5.out.ext R2'.out)).mono ?_
  rintro e w6 ⟨rfl, hh⟩
  have h6 := S5.out.call hh; clear hh S5
  try simp only [List.nil_append, List.cons_append, List.append_eq, Int.toNat_natCast] at h6
  have S6 := Lib.hid h6; clear h6
  obtain ⟨rc6, rf6⟩ := S6.out.rules
  go_wp2_with fail
  go_ret
  exact ⟨rfl, (SB.out.call S6.out).nil⟩

set_option maxRecDepth 100000 in
set_option maxHeartbeats 4000000 in
theorem sl_mul_one_eq (p : Addr) (kind : Int) (c : Nat) (A1 : Option Addr) (n1 c1 : Nat) (D : List Nat) (A2 : Option Addr) (n c2 : Nat) (l : List Nat) (W : Int) (A3 : Option Addr) (n3 c3 : Nat) (w : World) (hc : c < 256) (hD : D.length = n1) (hl : l.length = n) (hn1 : n1 ≤ 140737488351232) (hn : n ≤ 140737488351232) (h1 : Rd w A1 D) (h2 : Rd w A2 l) (h81 : B8 D) (h82 : B8 l) (hkind : kind ≠ 2) :
    Calls Try.prog 44 #[.pointer (some p), .agg #[.int .i64 kind, .int .u8 c, .slice A1 n1 c1, .slice A2 n c2, .int .u64 W, .slice A3 n3 c3, .bool true]] w fun e w' => e = .returned (.bool true) ∧ St w w' [] [] := by
  have HD := Lib.hid hD; have HL := Lib.hid hl; have R1 := Lib.hid h1; have R2 := Lib.hid h2; have H81 := Lib.hid h81; have H82 := Lib.hid h82
  have hk : (kind == 2) = false := beq_eq_false_iff_ne.2 hkind
  clear hkind
  clear hD hl h1 h2 h81 h82
  have hn3 : n ≤ 281474976710656 := by omega
  have SA := Lib.hid (St.start w)
  have HVN : Hid ((l.map (gm c)).length = n) := Lib.hid (by rw [List.length_map, HL.out])
  go_enter Try.func44, Try.ntmps44
  go_wp2_with ((with_reducible refine at_slot (N := 3) rfl ?_); refine box_law rfl 72 _ _ rfl rfl SA.out ?_; intro ob w0 hs; have SB := Lib.hid hs; clear hs SA; have oc0 := (SB.out.blk mem0).cell (i := 0) rfl; have oc1 := (SB.out.blk mem0).cell (i := 1) rfl; have oc2 := (SB.out.blk mem0).cell (i := 2) rfl; have oc3 := (SB.out.blk mem0).cell (i := 3) rfl; have oc6 := (SB.out.blk mem0).cell (i := 6) rfl; have hob := (SB.out.blk mem0).lt; have S0 := Lib.hid (St.start w0))
  have R1' := Lib.hid (SB.out.ext R1.out); have R2' := Lib.hid (SB.out.ext R2.out)
  obtain ⟨rc0, rf0⟩ := S0.out.rules
  go_wp2_with fail
  clear rc0 rf0
  refine (roomy_st HL.out hn (S0.out.ext R2'.out) H82.out).mono ?_
  rintro e w1 ⟨bs, Ds, rfl, hEs, hPs, hs8, hsm, hh⟩
  have h1 := S0.out.call hh; clear hh S0
  try simp only [List.nil_append, List.cons_append, List.append_eq, Int.toNat_natCast] at h1
  have HEs := Lib.hid hEs; have HPs := Lib.hid hPs; have HS8 := Lib.hid hs8; clear hEs hPs hs8
  have S1 := Lib.hid h1; clear h1
  obtain ⟨rc1, rf1⟩ := S1.out.rules
  go_wp2_with fail
  clear rc1 rf1
  refine (roomy_st HD.out hn1 (S1.out.ext R1'.out) H81.out).mono ?_
  rintro e w2 ⟨bd, Dd, rfl, hEd, hPd, hd8, hdm, hh⟩
  have h2 := S1.out.call hh; clear hh S1
  try simp only [List.nil_append, List.cons_append, List.append_eq, Int.toNat_natCast] at h2
  have HEd := Lib.hid hEd; have HPd := Lib.hid hPd; have HD8 := Lib.hid hd8; clear hEd hPd hd8
  have S2 := Lib.hid h2; clear h2
  obtain ⟨rc2, rf2⟩ := S2.out.rules
  have hds : n + 15 ≤ Ds.length := HEs.out.1
  have hdd : n1 + 15 ≤ Dd.length := HEd.out.1
  go_wp2_with fail
  clear rc2 rf2
  refine (ref_mul_eq c _ _ _ _ _ l l _ hc HL.out HL.out hn (piece_rd S2.out mem1 HPs.out) (piece_rd S2.out mem1 HPs.out) H82.out H82.out).mono ?_
  rintro e w3 ⟨A3, c3, m3, G3, hm3, rfl, hs, hg⟩
  obtain rfl : n = m3 := by rw [hm3]; exact (HVN.out).symm
  clear hm3
  have h3 := S2.out.callR hs; have HG3 := Lib.hid hg; clear hs hg S2
  try simp only [List.nil_append, List.cons_append, List.append_eq, List.append_nil, Int.toNat_natCast] at h3
  have S3 := Lib.hid h3; clear h3
  obtain ⟨rc3, rf3⟩ := S3.out.rules
  go_wp2_with fail
  clear rc3 rf3
  refine (mul_at (od := 3) (by omega) (by omega) (S3.out.blk mem1) (by omega) HL.out H82.out HS8.out (by omega) (by omega) hn3 (Srcs.own (fun k hk => by rw [← HPs.out]; simp [List.getElem?_take, show k < n by rw [HL.out] at hk; exact hk]))).mono ?_
  rintro e w4 ⟨rfl, hh⟩
  have h4 := S3.out.callN (N1 := [_]) hh; clear hh S3
  try simp only [List.nil_append, List.cons_append, List.append_eq, Int.toNat_natCast] at h4
  skip
  have S4 := Lib.hid h4; clear h4
  obtain ⟨rc4, rf4⟩ := S4.out.rules
  go_wp2_with fail
  clear rc4 rf4
  refine (same_st HVN.out hn3 (S4.out.rdWr mem1 (by rw [HVN.out]; omega)) (HG3.out.read S4.out (fun e he => by simp [he]))).mono ?_
  rintro e w5 ⟨rfl, hh⟩
  have h5 := S4.out.call hh; clear hh S4
  try simp only [List.nil_append, List.cons_append, List.append_eq, Int.toNat_natCast] at h5
  have S5 := Lib.hid h5; clear h5
  obtain ⟨rc5, rf5⟩ := S5.out.rules
  go_wp2_with fail
  refine (edges_st (S5.out.blk mem1) (edg_wr HEs.out HVN.out) hn).mono ?_
  rintro e _ ⟨rfl, rfl⟩
  go_wp2_with fail
  refine (edges_st (S5.out.blk mem1) (edg_wr HEs.out HVN.out) hn).mono ?_
  rintro e _ ⟨rfl, rfl⟩
  go_wp2_with fail
  go_ret
  exact ⟨rfl, (SB.out.call S5.out).nil⟩

set_option maxRecDepth 100000 in
set_option maxHeartbeats 4000000 in
theorem sl_add_one_eq (p : Addr) (kind : Int) (c : Nat) (A1 : Option Addr) (n1 c1 : Nat) (D : List Nat) (A2 : Option Addr) (n c2 : Nat) (l : List Nat) (W : Int) (A3 : Option Addr) (n3 c3 : Nat) (w : World) (hc : c < 256) (hD : D.length = n1) (hl : l.length = n) (hn1 : n1 ≤ 140737488351232) (hn : n ≤ 140737488351232) (h1 : Rd w A1 D) (h2 : Rd w A2 l) (h81 : B8 D) (h82 : B8 l) :
    Calls Try.prog 44 #[.pointer (some p), .agg #[.int .i64 2, .int .u8 c, .slice A1 n1 c1, .slice A2 n c2, .int .u64 W, .slice A3 n3 c3, .bool true]] w fun e w' => e = .returned (.bool true) ∧ St w w' [] [] := by
  have HD := Lib.hid hD; have HL := Lib.hid hl; have R1 := Lib.hid h1; have R2 := Lib.hid h2; have H81 := Lib.hid h81; have H82 := Lib.hid h82
  clear hD hl h1 h2 h81 h82
  have hn3 : n ≤ 281474976710656 := by omega
  have SA := Lib.hid (St.start w)
  have HVN : Hid ((xs l (l.map (gm c))).length = n) := Lib.hid (by rw [xs_length, HL.out])
  have HMN : Hid ((l.map (gm c)).length = n) := Lib.hid (by rw [List.length_map, HL.out])
  go_enter Try.func44, Try.ntmps44
  go_wp2_with ((with_reducible refine at_slot (N := 3) rfl ?_); refine box_law rfl 72 _ _ rfl rfl SA.out ?_; intro ob w0 hs; have SB := Lib.hid hs; clear hs SA; have oc0 := (SB.out.blk mem0).cell (i := 0) rfl; have oc1 := (SB.out.blk mem0).cell (i := 1) rfl; have oc2 := (SB.out.blk mem0).cell (i := 2) rfl; have oc3 := (SB.out.blk mem0).cell (i := 3) rfl; have oc6 := (SB.out.blk mem0).cell (i := 6) rfl; have hob := (SB.out.blk mem0).lt; have S0 := Lib.hid (St.start w0))
  have R1' := Lib.hid (SB.out.ext R1.out); have R2' := Lib.hid (SB.out.ext R2.out)
  obtain ⟨rc0, rf0⟩ := S0.out.rules
  go_wp2_with fail
  clear rc0 rf0
  refine (roomy_st HL.out hn (S0.out.ext R2'.out) H82.out).mono ?_
  rintro e w1 ⟨bs, Ds, rfl, hEs, hPs, hs8, hsm, hh⟩
  have h1 := S0.out.call hh; clear hh S0
  try simp only [List.nil_append, List.cons_append, List.append_eq, Int.toNat_natCast] at h1
  have HEs := Lib.hid hEs; have HPs := Lib.hid hPs; have HS8 := Lib.hid hs8; clear hEs hPs hs8
  have S1 := Lib.hid h1; clear h1
  obtain ⟨rc1, rf1⟩ := S1.out.rules
  go_wp2_with fail
  clear rc1 rf1
  refine (roomy_st HD.out hn1 (S1.out.ext R1'.out) H81.out).mono ?_
  rintro e w2 ⟨bd, Dd, rfl, hEd, hPd, hd8, hdm, hh⟩
  have h2 := S1.out.call hh; clear hh S1
  try simp only [List.nil_append, List.cons_append, List.append_eq, Int.toNat_natCast] at h2
  have HEd := Lib.hid hEd; have HPd := Lib.hid hPd; have HD8 := Lib.hid hd8; clear hEd hPd hd8
  have S2 := Lib.hid h2; clear h2
  obtain ⟨rc2, rf2⟩ := S2.out.rules
  have hds : n + 15 ≤ Ds.length := HEs.out.1
  have hdd : n1 + 15 ≤ Dd.length := HEd.out.1
  go_wp2_with fail
  clear rc2 rf2
  refine (ref_mul_eq c _ _ _ _ _ l l _ hc HL.out HL.out hn (piece_rd S2.out mem1 HPs.out) (piece_rd S2.out mem1 HPs.out) H82.out H82.out).mono ?_
  rintro e w3 ⟨A3, c3, m3, G3, hm3, rfl, hs, hg⟩
  obtain rfl : n = m3 := by rw [hm3]; exact (HMN.out).symm
  clear hm3
  have h3 := S2.out.callR hs; have HG3 := Lib.hid hg; clear hs hg S2
  try simp only [List.nil_append, List.cons_append, List.append_eq, List.append_nil, Int.toNat_natCast] at h3
  have S3 := Lib.hid h3; clear h3
  obtain ⟨rc3, rf3⟩ := S3.out.rules
  go_wp2_with fail
  clear rc3 rf3
  refine (ref_add_eq c _ _ _ _ _ l l _ hc HL.out HL.out hn (piece_rd S3.out mem1 HPs.out) (piece_rd S3.out mem1 HPs.out) H82.out H82.out).mono ?_
  rintro e w4 ⟨A4, c4, m4, G4, hm4, rfl, hs, hg⟩
  obtain rfl : n = m4 := by rw [hm4]; exact (HVN.out).symm
  clear hm4
  have h4 := S3.out.callR hs; have HG4 := Lib.hid hg; clear hs hg S3
  try simp only [List.nil_append, List.cons_append, List.append_eq, List.append_nil, Int.toNat_natCast] at h4
  have S4 := Lib.hid h4; clear h4
  obtain ⟨rc4, rf4⟩ := S4.out.rules
  go_wp2_with fail
  clear rc4 rf4
  refine (add_at (od := 3) (by omega) (by omega) (S4.out.blk mem1) (by omega) HL.out H82.out HS8.out (by omega) (by omega) hn3 (Srcs.own (fun k hk => by rw [← HPs.out]; simp [List.getElem?_take, show k < n by rw [HL.out] at hk; exact hk]))).mono ?_
  rintro e w5 ⟨rfl, hh⟩
  have h5 := S4.out.callN (N1 := [_]) hh; clear hh S4
  try simp only [List.nil_append, List.cons_append, List.append_eq, Int.toNat_natCast] at h5
  rw [add_list HPs.out HL.out HL.out] at h5
  have S5 := Lib.hid h5; clear h5
  obtain ⟨rc5, rf5⟩ := S5.out.rules
  go_wp2_with fail
  clear rc5 rf5
  refine (same_st HVN.out hn3 (S5.out.rdWr mem1 (by rw [HVN.out]; omega)) (HG4.out.read S5.out (fun e he => by simp [he]))).mono ?_
  rintro e w6 ⟨rfl, hh⟩
  have h6 := S5.out.call hh; clear hh S5
  try simp only [List.nil_append, List.cons_append, List.append_eq, Int.toNat_natCast] at h6
  have S6 := Lib.hid h6; clear h6
  obtain ⟨rc6, rf6⟩ := S6.out.rules
  go_wp2_with fail
  refine (edges_st (S6.out.blk mem1) (edg_wr HEs.out HVN.out) hn).mono ?_
  rintro e _ ⟨rfl, rfl⟩
  go_wp2_with fail
  refine (edges_st (S6.out.blk mem1) (edg_wr HEs.out HVN.out) hn).mono ?_
  rintro e _ ⟨rfl, rfl⟩
  go_wp2_with fail
  go_ret
  exact ⟨rfl, (SB.out.call S6.out).nil⟩

end Go.Proofs.Ytcjcolmhhbnmgaa.Sl
