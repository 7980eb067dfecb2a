/- Layer 8: the laws' 'slices': one Mul or MulAdd, laid among marks: each case of it (printed by gen/mk_s8.py). -/
import Derived.Test.YtadgjmlkpnifoaaRn
import Derived.Test.YtadgjmlkpnifoaaPk
namespace Go.Proofs.Ytadgjmlkpnifoaa.Pq
set_option linter.unusedSimpArgs false
set_option linter.unusedVariables false
open Go Go.RowKit Go.Proofs.Ytadgjmlkpnifoaa Go.Proofs.Ytadgjmlkpnifoaa.Mm Go.Proofs.Ytadgjmlkpnifoaa.Gh Go.Proofs.Ytadgjmlkpnifoaa.Wr Go.Proofs.Ytadgjmlkpnifoaa.St

set_option maxRecDepth 100000 in
set_option maxHeartbeats 4000000 in
theorem sl_mul_two_nil (c : Nat) (A1 : Option Addr) (n1 c1 : Nat) (D : List Nat) (A2 : Option Addr) (n c2 : Nat) (l : List Nat) (A3 : Option Addr) (n3 c3 : Nat) (nil : Bool) (ah bh : Int) (w : World) (hc : c < 65536) (hD : D.length = n1) (hl : l.length = n) (hn1 : n1 ≤ 1048576) (hn : n ≤ 1048576) (h1 : Rd w A1 D) (h2 : Rd w A2 l) (h81 : B8 D) (h82 : B8 l) :
    Calls Try.prog 45 #[.pointer none, .agg #[.int .i64 1, .int .u16 (c : Int), .slice A1 n1 c1, .slice A2 n c2, .slice A3 n3 c3, .bool false, .bool nil, .int .i64 ah, .int .i64 bh]] w fun e w' => e = .returned (.bool true) ∧ St w w' [] [] := by
  have HD := Lib.hid hD; have HL := Lib.hid hl; have R1 := Lib.hid h1; have R2 := Lib.hid h2; have H81 := Lib.hid h81; have H82 := Lib.hid h82
  clear hD hl h1 h2 h81 h82
  have hn3 : n ≤ 281474976710656 := by omega
  have hn13 : n1 ≤ 281474976710656 := by omega
  have ha := rm_lt ah
  have hb := rm_lt bh
  have SA := Lib.hid (St.start w)
  go_enter Try.func45, Try.ntmps45
  go_wp2_with ((with_reducible refine at_slot (N := 3) rfl ?_); refine box_law rfl 72 _ _ rfl rfl SA.out ?_; intro ob w0 hs; have SB := Lib.hid hs; clear hs SA; have oc0 := (SB.out.blk mem0).cell (i := 0) rfl; have oc1 := (SB.out.blk mem0).cell (i := 1) rfl; have oc2 := (SB.out.blk mem0).cell (i := 2) rfl; have oc3 := (SB.out.blk mem0).cell (i := 3) rfl; have oc5 := (SB.out.blk mem0).cell (i := 5) rfl; have oc7 := (SB.out.blk mem0).cell (i := 7) rfl; have oc8 := (SB.out.blk mem0).cell (i := 8) rfl; have hob := SB.out.lt mem0; have S0 := Lib.hid (St.start w0))
  have R1' := Lib.hid (SB.out.ext R1.out); have R2' := Lib.hid (SB.out.ext R2.out)
  obtain ⟨rc0, rf0⟩ := S0.out.rules
  go_wp2_with fail
  clear rc0 rf0
  refine (laid_any HL.out (by omega) (S0.out.ext R2'.out) (by decide) (by decide)).mono ?_
  rintro e w1 ⟨Ns, bs, os, ccs, hNs, rfl, ps, hqs, hs⟩
  have HNs := Lib.hid hNs; have HQs := Lib.hid hqs; clear hNs hqs
  have h1 := S0.out.call hs; clear hs S0
  try simp only [List.nil_append, List.cons_append, List.append_eq, List.append_nil, Int.toNat_natCast] at h1
  rw [show (100 : Int).toNat = 100 from rfl] at h1
  have S1 := Lib.hid h1; clear h1
  obtain ⟨rc1, rf1⟩ := S1.out.rules
  go_wp2_with fail
  clear rc1 rf1
  refine (laid_any HD.out (by omega) (S1.out.ext R1'.out) (by decide) (by decide)).mono ?_
  rintro e w2 ⟨Nd, bd, od, ccd, hNd, rfl, pd, hqd, hs⟩
  have HNd := Lib.hid hNd; have HQd := Lib.hid hqd; clear hNd hqd
  have h2 := S1.out.call hs; clear hs S1
  try simp only [List.nil_append, List.cons_append, List.append_eq, List.append_nil, Int.toNat_natCast] at h2
  rw [show (7 : Int).toNat = 7 from rfl] at h2
  have S2 := Lib.hid h2; clear h2
  obtain ⟨rc2, rf2⟩ := S2.out.rules
  have hNs : os + n ≤ Ns := by have := HNs.out; omega
  have hNd : od + n1 ≤ Nd := by have := HNd.out; omega
  have hNs3 : Ns ≤ 281474976710656 := by have := HNs.out; omega
  have hNd3 : Nd ≤ 281474976710656 := by have := HNd.out; omega
  have raS : rm ah + n ≤ Ns := by have := HNs.out; omega
  have raD : rm bh + n1 ≤ Nd := by have := HNd.out; omega
  have AS := Lib.hid (around_wr (around_mk (rm ah) n Ns 100) HL.out HQs.out raS ps)
  have AD := Lib.hid (around_wr (around_mk (rm bh) n1 Nd 7) HD.out HQd.out raD pd)
  have X8s : Hid (B8 (Wr.wr (mkL 100 Ns) os l)) := Lib.hid (wr_b8 (mkL_b8 _ _) H82.out)
  have X8d : Hid (B8 (Wr.wr (mkL 7 Nd) od D)) := Lib.hid (wr_b8 (mkL_b8 _ _) H81.out)
  have ref : Calls Try.prog 49 #[.int .u16 (c : Int), .slice A1 n1 c1, .slice A2 n c2] w2 (fun e w' => ∃ L f, RefR w2 L f e w') := by
    by_cases hq : n1 = n
    · subst hq
      rcases Nat.mod_two_eq_zero_or_one n1 with he | he
      · exact (rmul_own c _ _ _ _ _ D l _ hc HD.out HL.out he (by omega) (S2.out.ext R1'.out) (S2.out.ext R2'.out) H81.out H82.out).mono fun _ _ h => ⟨_, _, h.ref (by rw [pm_length, HL.out])⟩
      · exact (rmul_odd c _ _ _ _ _ D _ HD.out (by omega) (S2.out.ext R1'.out) H81.out he).mono fun _ _ h => ⟨_, _, h.ref HD.out⟩
    · exact (rmul_ne c _ _ _ _ _ _ D _ HD.out (by omega) (S2.out.ext R1'.out) H81.out hq).mono fun _ _ h => ⟨_, _, h.ref HD.out⟩
  have REF := Lib.hid ref
  clear ref
  go_wp2_with fail
  clear rc2 rf2
  refine REF.out.mono ?_
  rintro e w3 ⟨L, f, A4, c4, m4, G3, hm3, rfl, hs, hg⟩
  clear hm3 hg
  have h3 := S2.out.callR hs; clear hs S2
  simp only [List.nil_append, List.cons_append] at h3
  have S3 := Lib.hid h3; clear h3
  obtain ⟨rc3, rf3⟩ := S3.out.rules
  go_wp2_with fail
  refine (mul_nil _ _ _ _).mono ?_
  rintro e _ ⟨rfl, rfl⟩
  go_wp2_with fail
  clear rc3 rf3
  refine (equal_st HD.out hn13 (S3.out.rdWr mem0 (by rw [mkL_length, HD.out]; exact hNd)) (S3.out.ext R1'.out)).mono ?_
  rintro e w4 ⟨rfl, hh⟩
  have h4 := S3.out.call hh; clear hh S3
  try simp only [List.nil_append, List.cons_append, List.append_eq, Int.toNat_natCast] at h4
  have S4 := Lib.hid h4; clear h4
  obtain ⟨rc4, rf4⟩ := S4.out.rules
  go_wp2_with fail
  clear rc4 rf4
  refine (equal_st HL.out hn3 (S4.out.rdWr mem1 (by rw [mkL_length, HL.out]; exact hNs)) (S4.out.ext R2'.out)).mono ?_
  rintro e w5 ⟨rfl, hh⟩
  have h5 := S4.out.call hh; clear hh S4
  try simp only [List.nil_append, List.cons_append, List.append_eq, Int.toNat_natCast] at h5
  have S5 := Lib.hid h5; clear h5
  obtain ⟨rc5, rf5⟩ := S5.out.rules
  go_wp2_with fail
  have QA : Hid (∀ m cp : Nat, Calls Try.prog 51 #[.slice (some ⟨bs, 0, none⟩) Ns cp, .int .i64 ((rm ah : Nat) : Int), .int .i64 (n : Int), .int .u8 100] (w5.drewN m) (fun e w' => e = .returned (.bool true) ∧ w' = w5.drewN m)) := Lib.hid (fun m cp => (around_any (mark := 100) (by decide) AS.out (S5.out.drewN.rd mem1) hNs3 (by omega) (by omega)).mono fun _ _ h => ⟨h.1, h.2.symm⟩)
  have QB : Hid (∀ m cp : Nat, Calls Try.prog 51 #[.slice (some ⟨bd, 0, none⟩) Nd cp, .int .i64 ((rm bh : Nat) : Int), .int .i64 (n1 : Int), .int .u8 7] (w5.drewN m) (fun e w' => e = .returned (.bool true) ∧ w' = w5.drewN m)) := Lib.hid (fun m cp => (around_any (mark := 7) (by decide) AD.out (S5.out.drewN.rd mem0) hNd3 (by omega) (by omega)).mono fun _ _ h => ⟨h.1, h.2.symm⟩)
  go_quiet ((first | (go_at_call 52; exact Calls.quiet_of_same ((room_st _ _).mono fun _ _ h => ⟨h.1, h.2.symm⟩)) | (go_at_call 51; with_reducible exact Calls.quiet_of_same (QA.out _ _)) | (go_at_call 51; with_reducible exact Calls.quiet_of_same (QB.out _ _))))
  go_wp2_with fail
  go_ret
  exact ⟨rfl, (SB.out.call S5.out.drewN).nil⟩

set_option maxRecDepth 100000 in
set_option maxHeartbeats 4000000 in
theorem sl_add_two_nil (c : Nat) (A1 : Option Addr) (n1 c1 : Nat) (D : List Nat) (A2 : Option Addr) (n c2 : Nat) (l : List Nat) (A3 : Option Addr) (n3 c3 : Nat) (nil : Bool) (ah bh : Int) (w : World) (hc : c < 65536) (hD : D.length = n1) (hl : l.length = n) (hn1 : n1 ≤ 1048576) (hn : n ≤ 1048576) (h1 : Rd w A1 D) (h2 : Rd w A2 l) (h81 : B8 D) (h82 : B8 l) :
    Calls Try.prog 45 #[.pointer none, .agg #[.int .i64 2, .int .u16 (c : Int), .slice A1 n1 c1, .slice A2 n c2, .slice A3 n3 c3, .bool false, .bool nil, .int .i64 ah, .int .i64 bh]] w fun e w' => e = .returned (.bool true) ∧ St w w' [] [] := by
  have HD := Lib.hid hD; have HL := Lib.hid hl; have R1 := Lib.hid h1; have R2 := Lib.hid h2; have H81 := Lib.hid h81; have H82 := Lib.hid h82
  clear hD hl h1 h2 h81 h82
  have hn3 : n ≤ 281474976710656 := by omega
  have hn13 : n1 ≤ 281474976710656 := by omega
  have ha := rm_lt ah
  have hb := rm_lt bh
  have SA := Lib.hid (St.start w)
  go_enter Try.func45, Try.ntmps45
  go_wp2_with ((with_reducible refine at_slot (N := 3) rfl ?_); refine box_law rfl 72 _ _ rfl rfl SA.out ?_; intro ob w0 hs; have SB := Lib.hid hs; clear hs SA; have oc0 := (SB.out.blk mem0).cell (i := 0) rfl; have oc1 := (SB.out.blk mem0).cell (i := 1) rfl; have oc2 := (SB.out.blk mem0).cell (i := 2) rfl; have oc3 := (SB.out.blk mem0).cell (i := 3) rfl; have oc5 := (SB.out.blk mem0).cell (i := 5) rfl; have oc7 := (SB.out.blk mem0).cell (i := 7) rfl; have oc8 := (SB.out.blk mem0).cell (i := 8) rfl; have hob := SB.out.lt mem0; have S0 := Lib.hid (St.start w0))
  have R1' := Lib.hid (SB.out.ext R1.out); have R2' := Lib.hid (SB.out.ext R2.out)
  obtain ⟨rc0, rf0⟩ := S0.out.rules
  go_wp2_with fail
  clear rc0 rf0
  refine (laid_any HL.out (by omega) (S0.out.ext R2'.out) (by decide) (by decide)).mono ?_
  rintro e w1 ⟨Ns, bs, os, ccs, hNs, rfl, ps, hqs, hs⟩
  have HNs := Lib.hid hNs; have HQs := Lib.hid hqs; clear hNs hqs
  have h1 := S0.out.call hs; clear hs S0
  try simp only [List.nil_append, List.cons_append, List.append_eq, List.append_nil, Int.toNat_natCast] at h1
  rw [show (100 : Int).toNat = 100 from rfl] at h1
  have S1 := Lib.hid h1; clear h1
  obtain ⟨rc1, rf1⟩ := S1.out.rules
  go_wp2_with fail
  clear rc1 rf1
  refine (laid_any HD.out (by omega) (S1.out.ext R1'.out) (by decide) (by decide)).mono ?_
  rintro e w2 ⟨Nd, bd, od, ccd, hNd, rfl, pd, hqd, hs⟩
  have HNd := Lib.hid hNd; have HQd := Lib.hid hqd; clear hNd hqd
  have h2 := S1.out.call hs; clear hs S1
  try simp only [List.nil_append, List.cons_append, List.append_eq, List.append_nil, Int.toNat_natCast] at h2
  rw [show (7 : Int).toNat = 7 from rfl] at h2
  have S2 := Lib.hid h2; clear h2
  obtain ⟨rc2, rf2⟩ := S2.out.rules
  have hNs : os + n ≤ Ns := by have := HNs.out; omega
  have hNd : od + n1 ≤ Nd := by have := HNd.out; omega
  have hNs3 : Ns ≤ 281474976710656 := by have := HNs.out; omega
  have hNd3 : Nd ≤ 281474976710656 := by have := HNd.out; omega
  have raS : rm ah + n ≤ Ns := by have := HNs.out; omega
  have raD : rm bh + n1 ≤ Nd := by have := HNd.out; omega
  have AS := Lib.hid (around_wr (around_mk (rm ah) n Ns 100) HL.out HQs.out raS ps)
  have AD := Lib.hid (around_wr (around_mk (rm bh) n1 Nd 7) HD.out HQd.out raD pd)
  have X8s : Hid (B8 (Wr.wr (mkL 100 Ns) os l)) := Lib.hid (wr_b8 (mkL_b8 _ _) H82.out)
  have X8d : Hid (B8 (Wr.wr (mkL 7 Nd) od D)) := Lib.hid (wr_b8 (mkL_b8 _ _) H81.out)
  have ref : Calls Try.prog 50 #[.int .u16 (c : Int), .slice A1 n1 c1, .slice A2 n c2] w2 (fun e w' => ∃ L f, RefR w2 L f e w') := by
    by_cases hq : n1 = n
    · subst hq
      rcases Nat.mod_two_eq_zero_or_one n1 with he | he
      · exact (radd_own c _ _ _ _ _ D l _ hc HD.out HL.out he (by omega) (S2.out.ext R1'.out) (S2.out.ext R2'.out) H81.out H82.out).mono fun _ _ h => ⟨_, _, h.ref (by rw [xs_length, pm_length, HL.out])⟩
      · exact (radd_bad (by decide) (rmul_odd c _ _ _ _ _ D _ HD.out (by omega) (S2.out.ext R1'.out) H81.out he)).mono fun _ _ h => ⟨_, _, h.ref HD.out⟩
    · exact (radd_bad (by decide) (rmul_ne c _ _ _ _ _ _ D _ HD.out (by omega) (S2.out.ext R1'.out) H81.out hq)).mono fun _ _ h => ⟨_, _, h.ref HD.out⟩
  have REF := Lib.hid ref
  clear ref
  go_wp2_with fail
  clear rc2 rf2
  refine REF.out.mono ?_
  rintro e w3 ⟨L, f, A4, c4, m4, G3, hm3, rfl, hs, hg⟩
  clear hm3 hg
  have h3 := S2.out.callR hs; clear hs S2
  simp only [List.nil_append, List.cons_append] at h3
  have S3 := Lib.hid h3; clear h3
  obtain ⟨rc3, rf3⟩ := S3.out.rules
  go_wp2_with fail
  refine (add_nil _ _ _ _).mono ?_
  rintro e _ ⟨rfl, rfl⟩
  go_wp2_with fail
  clear rc3 rf3
  refine (equal_st HD.out hn13 (S3.out.rdWr mem0 (by rw [mkL_length, HD.out]; exact hNd)) (S3.out.ext R1'.out)).mono ?_
  rintro e w4 ⟨rfl, hh⟩
  have h4 := S3.out.call hh; clear hh S3
  try simp only [List.nil_append, List.cons_append, List.append_eq, Int.toNat_natCast] at h4
  have S4 := Lib.hid h4; clear h4
  obtain ⟨rc4, rf4⟩ := S4.out.rules
  go_wp2_with fail
  clear rc4 rf4
  refine (equal_st HL.out hn3 (S4.out.rdWr mem1 (by rw [mkL_length, HL.out]; exact hNs)) (S4.out.ext R2'.out)).mono ?_
  rintro e w5 ⟨rfl, hh⟩
  have h5 := S4.out.call hh; clear hh S4
  try simp only [List.nil_append, List.cons_append, List.append_eq, Int.toNat_natCast] at h5
  have S5 := Lib.hid h5; clear h5
  obtain ⟨rc5, rf5⟩ := S5.out.rules
  go_wp2_with fail
  have QA : Hid (∀ m cp : Nat, Calls Try.prog 51 #[.slice (some ⟨bs, 0, none⟩) Ns cp, .int .i64 ((rm ah : Nat) : Int), .int .i64 (n : Int), .int .u8 100] (w5.drewN m) (fun e w' => e = .returned (.bool true) ∧ w' = w5.drewN m)) := Lib.hid (fun m cp => (around_any (mark := 100) (by decide) AS.out (S5.out.drewN.rd mem1) hNs3 (by omega) (by omega)).mono fun _ _ h => ⟨h.1, h.2.symm⟩)
  have QB : Hid (∀ m cp : Nat, Calls Try.prog 51 #[.slice (some ⟨bd, 0, none⟩) Nd cp, .int .i64 ((rm bh : Nat) : Int), .int .i64 (n1 : Int), .int .u8 7] (w5.drewN m) (fun e w' => e = .returned (.bool true) ∧ w' = w5.drewN m)) := Lib.hid (fun m cp => (around_any (mark := 7) (by decide) AD.out (S5.out.drewN.rd mem0) hNd3 (by omega) (by omega)).mono fun _ _ h => ⟨h.1, h.2.symm⟩)
  go_quiet ((first | (go_at_call 52; exact Calls.quiet_of_same ((room_st _ _).mono fun _ _ h => ⟨h.1, h.2.symm⟩)) | (go_at_call 51; with_reducible exact Calls.quiet_of_same (QA.out _ _)) | (go_at_call 51; with_reducible exact Calls.quiet_of_same (QB.out _ _))))
  go_wp2_with fail
  go_ret
  exact ⟨rfl, (SB.out.call S5.out.drewN).nil⟩

end Go.Proofs.Ytadgjmlkpnifoaa.Pq
