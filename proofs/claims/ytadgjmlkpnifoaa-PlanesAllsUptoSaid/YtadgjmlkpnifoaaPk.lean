/- Layer 8: the laws' 'packs': one Words, Bytes, Split or Merge, of lists that lie among marks: each case of it (printed by gen/mk_pk.py). -/
import Derived.Test.YtadgjmlkpnifoaaRv
import Derived.Deep.RegionHeld3
namespace Go.Proofs.Ytadgjmlkpnifoaa.Pq
set_option linter.unusedSimpArgs false
set_option linter.unusedVariables false
open Go Go.RowKit Go.Proofs.Ytadgjmlkpnifoaa Go.Proofs.Ytadgjmlkpnifoaa.Mm Go.Proofs.Ytadgjmlkpnifoaa.Gh Go.Proofs.Ytadgjmlkpnifoaa.Wr Go.Proofs.Ytadgjmlkpnifoaa.St

/-- A cell that was there holds what it held. -/
theorem keep_cell {w0 w : World} {N : List Ent} {a : Addr} {v : Value} (h : St w0 w [] N) (hc : w0.cell? a = some v) : w.cell? a = some v := by
  rw [h.below.cell (p := a) (cell_lt hc)]; exact hc
/-- A slice of words that is cloned. -/
theorem rdV_of_none {w : World} {A : Option Addr} {l : List Nat} (h : RdV e16 w A l) : RdV e16 w A l := h

set_option maxRecDepth 100000 in
set_option maxHeartbeats 4000000 in
theorem pk_words (kind : Int) (c : Nat) (A1 : Option Addr) (n1 c1 : Nat) (D : List Nat) (A2 : Option Addr) (n c2 : Nat) (l : List Nat) (A3 : Option Addr) (n3 c3 : Nat) (vs : List Nat) (sf nil : Bool) (ah bh : Int) (w : World) (hD : D.length = n1) (hl : l.length = n) (hv : vs.length = n3) (hn1 : n1 ≤ 1048576) (hn : n ≤ 1048576) (hn3 : n3 ≤ 1048576) (h1 : Rd w A1 D) (h2 : Rd w A2 l) (h3 : RdV e16 w A3 vs) (h81 : B8 D) (h82 : B8 l) (h16 : W16 vs) (he : n % 2 = 0) :
    Calls Try.prog 46 #[.agg #[.int .i64 3, .int .u16 c, .slice A1 n1 c1, .slice A2 n c2, .slice A3 n3 c3, .bool sf, .bool nil, .int .i64 ah, .int .i64 bh]] w fun e w' => e = .returned (.bool true) ∧ St w w' [] [] := by
  have HD := Lib.hid hD; have HL := Lib.hid hl; have HV := Lib.hid hv; have R1 := Lib.hid h1; have R2 := Lib.hid h2; have R3 := Lib.hid h3; have H81 := Lib.hid h81; have H82 := Lib.hid h82; have H16 := Lib.hid h16
  clear hD hl hv h1 h2 h3 h81 h82 h16
  have HE := Lib.hid he
  obtain ⟨q, hq⟩ : ∃ q, n / 2 = q := ⟨_, rfl⟩
  have HQ := Lib.hid hq
  have HWL : Hid ((ws l).length = q) := Lib.hid (by rw [ws_length, HL.out, hq])
  have hqb : q ≤ 1048576 := by omega
  clear he hq
  have ha := rm_lt ah
  have hb := rm_lt bh
  have SA := Lib.hid (St.start w)
  go_enter Try.func46, Try.ntmps46
  go_wp2_with ((with_reducible refine at_slot (N := 1) rfl ?_); refine box_law rfl 72 _ _ rfl rfl SA.out ?_; intro ob w0 hs; have SB := Lib.hid hs; clear hs SA; have oc0 := (SB.out.blk mem0).cell (i := 0) rfl; have oc2 := (SB.out.blk mem0).cell (i := 2) rfl; have oc3 := (SB.out.blk mem0).cell (i := 3) rfl; have oc4 := (SB.out.blk mem0).cell (i := 4) rfl; have oc7 := (SB.out.blk mem0).cell (i := 7) rfl; have oc8 := (SB.out.blk mem0).cell (i := 8) rfl; have hob := SB.out.lt mem0; have S0 := Lib.hid (St.start w0))
  have R1' := Lib.hid (SB.out.ext R1.out); have R2' := Lib.hid (SB.out.ext R2.out); have R3' := Lib.hid (SB.out.extV R3.out)
  obtain ⟨rc0, rf0⟩ := S0.out.rules
  go_wp2_with fail
  clear rc0 rf0
  refine (laid_any HL.out (by omega) (S0.out.ext R2'.out) (by decide) (by decide)).mono ?_
  rintro e w1 ⟨Ns, bs, os, ccs, hNs, rfl, ps, hqs, hs⟩
  have HNs := Lib.hid hNs; have HQs := Lib.hid hqs; clear hNs hqs
  have h1 := S0.out.call hs; clear hs S0
  try simp only [List.nil_append, List.cons_append, List.append_eq, List.append_nil, Int.toNat_natCast] at h1
  rw [show (100 : Int).toNat = 100 from rfl] at h1
  have S1 := Lib.hid h1; clear h1
  obtain ⟨rc1, rf1⟩ := S1.out.rules
  go_wp2_with fail
  clear rc1 rf1
  refine (laid_any HD.out (by omega) (S1.out.ext R1'.out) (by decide) (by decide)).mono ?_
  rintro e w2 ⟨Nd, bd, od, ccd, hNd, rfl, pd, hqd, hs⟩
  have HNd := Lib.hid hNd; have HQd := Lib.hid hqd; clear hNd hqd
  have h2 := S1.out.call hs; clear hs S1
  try simp only [List.nil_append, List.cons_append, List.append_eq, List.append_nil, Int.toNat_natCast] at h2
  rw [show (7 : Int).toNat = 7 from rfl] at h2
  have S2 := Lib.hid h2; clear h2
  obtain ⟨rc2, rf2⟩ := S2.out.rules
  clear rc2 rf2
  have hNs : os + n ≤ Ns := by have := HNs.out; omega
  have hNd : od + n1 ≤ Nd := by have := HNd.out; omega
  have hNs3 : Ns ≤ 281474976710656 := by have := HNs.out; omega
  have hNd3 : Nd ≤ 281474976710656 := by have := HNd.out; omega
  have raS : rm ah + n ≤ Ns := by have := HNs.out; omega
  have raD : rm bh + n1 ≤ Nd := by have := HNd.out; omega
  have AS := Lib.hid (around_wr (around_mk (rm ah) n Ns 100) HL.out HQs.out raS ps)
  have AD := Lib.hid (around_wr (around_mk (rm bh) n1 Nd 7) HD.out HQd.out raD pd)
  have RS := Lib.hid (S2.out.rdWr mem1 (by rw [mkL_length, HL.out]; exact hNs))
  have RD := Lib.hid (S2.out.rdWr mem0 (by rw [mkL_length, HD.out]; exact hNd))
  have RSA := Lib.hid (S2.out.rd mem1)
  have RDA := Lib.hid (S2.out.rd mem0)
  have Q1 := Lib.hid (S2.out.ext R1'.out); have Q2 := Lib.hid (S2.out.ext R2'.out); have Q3 := Lib.hid (S2.out.extV R3'.out)
  have SC := S2
  replace oc0 := keep_cell SC.out oc0; replace oc2 := keep_cell SC.out oc2; replace oc3 := keep_cell SC.out oc3; replace oc4 := keep_cell SC.out oc4; replace oc7 := keep_cell SC.out oc7; replace oc8 := keep_cell SC.out oc8
  have hob' : ob < w2.heap.size := cell_lt oc0
  clear S2 hob hNs hNd
  have S50 := Lib.hid (St.start w2)
  obtain ⟨rc50, rf50⟩ := S50.out.rules
  go_wp2_with fail
  clear rc50 rf50
  refine (Words_st HL.out HE.out (by omega) (S50.out.ext RS.out) H82.out).mono ?_
  rintro e w51 ⟨vb, rfl, hh⟩
  have h51 := S50.out.call hh; clear hh S50
  try simp only [List.nil_append, List.cons_append, List.append_eq, Int.toNat_natCast] at h51
  have S51 := Lib.hid h51; clear h51
  obtain ⟨rc51, rf51⟩ := S51.out.rules
  rw [HQ.out]
  go_wp2_with fail
  clear rc51 rf51
  refine (rwords_st HL.out HE.out (by omega) (S51.out.ext Q2.out) H82.out).mono ?_
  rintro e w52 ⟨v2, G2, rfl, hg2, hh⟩
  have h52 := S51.out.call hh; clear hh S51
  try simp only [List.nil_append, List.cons_append, List.append_eq, Int.toNat_natCast] at h52
  obtain ⟨A4, c4, rfl⟩ := hg2.shape; rw [HWL.out] at hg2 ⊢; have HG2 := Lib.hid hg2; clear hg2
  have S52 := Lib.hid h52; clear h52
  obtain ⟨rc52, rf52⟩ := S52.out.rules
  go_wp2_with fail
  clear rc52 rf52
  refine (alike_st HWL.out (by omega) (S52.out.rdV (t := 23) (l := ws l) (by simp [row, cellsV, e16])) (HG2.out.read S52.out (fun e he => by simp [he]))).mono ?_
  rintro e w53 ⟨rfl, hh⟩
  have h53 := S52.out.call hh; clear hh S52
  try simp only [List.nil_append, List.cons_append, List.append_eq, Int.toNat_natCast] at h53
  have S53 := Lib.hid h53; clear h53
  obtain ⟨rc53, rf53⟩ := S53.out.rules
  go_wp2_with fail
  clear rc53 rf53
  refine (equal_st HL.out (by omega) (S53.out.ext RS.out) (S53.out.ext Q2.out)).mono ?_
  rintro e w54 ⟨rfl, hh⟩
  have h54 := S53.out.call hh; clear hh S53
  try simp only [List.nil_append, List.cons_append, List.append_eq, Int.toNat_natCast] at h54
  have S54 := Lib.hid h54; clear h54
  obtain ⟨rc54, rf54⟩ := S54.out.rules
  go_wp2_with fail
  clear rc54 rf54
  refine (equal_st HD.out (by omega) (S54.out.ext RD.out) (S54.out.ext Q1.out)).mono ?_
  rintro e w55 ⟨rfl, hh⟩
  have h55 := S54.out.call hh; clear hh S54
  try simp only [List.nil_append, List.cons_append, List.append_eq, Int.toNat_natCast] at h55
  have S55 := Lib.hid h55; clear h55
  obtain ⟨rc55, rf55⟩ := S55.out.rules
  go_wp2_with fail
  have QA : Hid (∀ m cp : Nat, Calls Try.prog 51 #[.slice (some ⟨bs, 0, none⟩) Ns cp, .int .i64 ((rm ah : Nat) : Int), .int .i64 (n : Int), .int .u8 100] (w55.drewN m) (fun e w' => e = .returned (.bool true) ∧ w' = w55.drewN m)) := Lib.hid (fun m cp => (around_any (mark := 100) (by decide) AS.out (S55.out.drewN.ext RSA.out) hNs3 (by omega) (by omega)).mono fun _ _ h => ⟨h.1, h.2.symm⟩)
  have QB : Hid (∀ m cp : Nat, Calls Try.prog 51 #[.slice (some ⟨bd, 0, none⟩) Nd cp, .int .i64 ((rm bh : Nat) : Int), .int .i64 (n1 : Int), .int .u8 7] (w55.drewN m) (fun e w' => e = .returned (.bool true) ∧ w' = w55.drewN m)) := Lib.hid (fun m cp => (around_any (mark := 7) (by decide) AD.out (S55.out.drewN.ext RDA.out) hNd3 (by omega) (by omega)).mono fun _ _ h => ⟨h.1, h.2.symm⟩)
  go_quiet ((first | (go_at_call 52; exact Calls.quiet_of_same ((room_st _ _).mono fun _ _ h => ⟨h.1, h.2.symm⟩)) | (go_at_call 51; with_reducible exact Calls.quiet_of_same (QA.out _ _)) | (go_at_call 51; with_reducible exact Calls.quiet_of_same (QB.out _ _))))
  go_wp2_with fail
  go_ret
  exact ⟨rfl, (SB.out.call (SC.out.call S55.out.drewN)).nil⟩

set_option maxRecDepth 100000 in
set_option maxHeartbeats 4000000 in
theorem pk_words_odd (kind : Int) (c : Nat) (A1 : Option Addr) (n1 c1 : Nat) (D : List Nat) (A2 : Option Addr) (n c2 : Nat) (l : List Nat) (A3 : Option Addr) (n3 c3 : Nat) (vs : List Nat) (sf nil : Bool) (ah bh : Int) (w : World) (hD : D.length = n1) (hl : l.length = n) (hv : vs.length = n3) (hn1 : n1 ≤ 1048576) (hn : n ≤ 1048576) (hn3 : n3 ≤ 1048576) (h1 : Rd w A1 D) (h2 : Rd w A2 l) (h3 : RdV e16 w A3 vs) (h81 : B8 D) (h82 : B8 l) (h16 : W16 vs) (he : n % 2 = 1) :
    Calls Try.prog 46 #[.agg #[.int .i64 3, .int .u16 c, .slice A1 n1 c1, .slice A2 n c2, .slice A3 n3 c3, .bool sf, .bool nil, .int .i64 ah, .int .i64 bh]] w fun e w' => e = .returned (.bool true) ∧ St w w' [] [] := by
  have HD := Lib.hid hD; have HL := Lib.hid hl; have HV := Lib.hid hv; have R1 := Lib.hid h1; have R2 := Lib.hid h2; have R3 := Lib.hid h3; have H81 := Lib.hid h81; have H82 := Lib.hid h82; have H16 := Lib.hid h16
  clear hD hl hv h1 h2 h3 h81 h82 h16
  have HE := Lib.hid he
  clear he
  have ha := rm_lt ah
  have hb := rm_lt bh
  have SA := Lib.hid (St.start w)
  go_enter Try.func46, Try.ntmps46
  go_wp2_with ((with_reducible refine at_slot (N := 1) rfl ?_); refine box_law rfl 72 _ _ rfl rfl SA.out ?_; intro ob w0 hs; have SB := Lib.hid hs; clear hs SA; have oc0 := (SB.out.blk mem0).cell (i := 0) rfl; have oc2 := (SB.out.blk mem0).cell (i := 2) rfl; have oc3 := (SB.out.blk mem0).cell (i := 3) rfl; have oc4 := (SB.out.blk mem0).cell (i := 4) rfl; have oc7 := (SB.out.blk mem0).cell (i := 7) rfl; have oc8 := (SB.out.blk mem0).cell (i := 8) rfl; have hob := SB.out.lt mem0; have S0 := Lib.hid (St.start w0))
  have R1' := Lib.hid (SB.out.ext R1.out); have R2' := Lib.hid (SB.out.ext R2.out); have R3' := Lib.hid (SB.out.extV R3.out)
  obtain ⟨rc0, rf0⟩ := S0.out.rules
  go_wp2_with fail
  clear rc0 rf0
  refine (laid_any HL.out (by omega) (S0.out.ext R2'.out) (by decide) (by decide)).mono ?_
  rintro e w1 ⟨Ns, bs, os, ccs, hNs, rfl, ps, hqs, hs⟩
  have HNs := Lib.hid hNs; have HQs := Lib.hid hqs; clear hNs hqs
  have h1 := S0.out.call hs; clear hs S0
  try simp only [List.nil_append, List.cons_append, List.append_eq, List.append_nil, Int.toNat_natCast] at h1
  rw [show (100 : Int).toNat = 100 from rfl] at h1
  have S1 := Lib.hid h1; clear h1
  obtain ⟨rc1, rf1⟩ := S1.out.rules
  go_wp2_with fail
  clear rc1 rf1
  refine (laid_any HD.out (by omega) (S1.out.ext R1'.out) (by decide) (by decide)).mono ?_
  rintro e w2 ⟨Nd, bd, od, ccd, hNd, rfl, pd, hqd, hs⟩
  have HNd := Lib.hid hNd; have HQd := Lib.hid hqd; clear hNd hqd
  have h2 := S1.out.call hs; clear hs S1
  try simp only [List.nil_append, List.cons_append, List.append_eq, List.append_nil, Int.toNat_natCast] at h2
  rw [show (7 : Int).toNat = 7 from rfl] at h2
  have S2 := Lib.hid h2; clear h2
  obtain ⟨rc2, rf2⟩ := S2.out.rules
  clear rc2 rf2
  have hNs : os + n ≤ Ns := by have := HNs.out; omega
  have hNd : od + n1 ≤ Nd := by have := HNd.out; omega
  have hNs3 : Ns ≤ 281474976710656 := by have := HNs.out; omega
  have hNd3 : Nd ≤ 281474976710656 := by have := HNd.out; omega
  have raS : rm ah + n ≤ Ns := by have := HNs.out; omega
  have raD : rm bh + n1 ≤ Nd := by have := HNd.out; omega
  have AS := Lib.hid (around_wr (around_mk (rm ah) n Ns 100) HL.out HQs.out raS ps)
  have AD := Lib.hid (around_wr (around_mk (rm bh) n1 Nd 7) HD.out HQd.out raD pd)
  have RS := Lib.hid (S2.out.rdWr mem1 (by rw [mkL_length, HL.out]; exact hNs))
  have RD := Lib.hid (S2.out.rdWr mem0 (by rw [mkL_length, HD.out]; exact hNd))
  have RSA := Lib.hid (S2.out.rd mem1)
  have RDA := Lib.hid (S2.out.rd mem0)
  have Q1 := Lib.hid (S2.out.ext R1'.out); have Q2 := Lib.hid (S2.out.ext R2'.out); have Q3 := Lib.hid (S2.out.extV R3'.out)
  have SC := S2
  replace oc0 := keep_cell SC.out oc0; replace oc2 := keep_cell SC.out oc2; replace oc3 := keep_cell SC.out oc3; replace oc4 := keep_cell SC.out oc4; replace oc7 := keep_cell SC.out oc7; replace oc8 := keep_cell SC.out oc8
  have hob' : ob < w2.heap.size := cell_lt oc0
  clear S2 hob hNs hNd
  have S50 := Lib.hid (St.start w2)
  obtain ⟨rc50, rf50⟩ := S50.out.rules
  go_wp2_with fail
  refine (words_odd _ _ _ _ HE.out).mono ?_
  rintro e _ ⟨rfl, rfl⟩
  go_wp2_with fail
  refine (rwords_odd _ _ _ _ HE.out).mono ?_
  rintro e _ ⟨rfl, rfl⟩
  go_wp2_with fail
  clear rc50 rf50
  refine (alike_st (l := []) rfl (by decide) RdV.nil RdV.nil).mono ?_
  rintro e w51 ⟨rfl, hh⟩
  have h51 := S50.out.call hh; clear hh S50
  try simp only [List.nil_append, List.cons_append, List.append_eq, Int.toNat_natCast] at h51
  have S51 := Lib.hid h51; clear h51
  obtain ⟨rc51, rf51⟩ := S51.out.rules
  go_wp2_with fail
  clear rc51 rf51
  refine (equal_st HL.out (by omega) (S51.out.ext RS.out) (S51.out.ext Q2.out)).mono ?_
  rintro e w52 ⟨rfl, hh⟩
  have h52 := S51.out.call hh; clear hh S51
  try simp only [List.nil_append, List.cons_append, List.append_eq, Int.toNat_natCast] at h52
  have S52 := Lib.hid h52; clear h52
  obtain ⟨rc52, rf52⟩ := S52.out.rules
  go_wp2_with fail
  clear rc52 rf52
  refine (equal_st HD.out (by omega) (S52.out.ext RD.out) (S52.out.ext Q1.out)).mono ?_
  rintro e w53 ⟨rfl, hh⟩
  have h53 := S52.out.call hh; clear hh S52
  try simp only [List.nil_append, List.cons_append, List.append_eq, Int.toNat_natCast] at h53
  have S53 := Lib.hid h53; clear h53
  obtain ⟨rc53, rf53⟩ := S53.out.rules
  go_wp2_with fail
  have QA : Hid (∀ m cp : Nat, Calls Try.prog 51 #[.slice (some ⟨bs, 0, none⟩) Ns cp, .int .i64 ((rm ah : Nat) : Int), .int .i64 (n : Int), .int .u8 100] (w53.drewN m) (fun e w' => e = .returned (.bool true) ∧ w' = w53.drewN m)) := Lib.hid (fun m cp => (around_any (mark := 100) (by decide) AS.out (S53.out.drewN.ext RSA.out) hNs3 (by omega) (by omega)).mono fun _ _ h => ⟨h.1, h.2.symm⟩)
  have QB : Hid (∀ m cp : Nat, Calls Try.prog 51 #[.slice (some ⟨bd, 0, none⟩) Nd cp, .int .i64 ((rm bh : Nat) : Int), .int .i64 (n1 : Int), .int .u8 7] (w53.drewN m) (fun e w' => e = .returned (.bool true) ∧ w' = w53.drewN m)) := Lib.hid (fun m cp => (around_any (mark := 7) (by decide) AD.out (S53.out.drewN.ext RDA.out) hNd3 (by omega) (by omega)).mono fun _ _ h => ⟨h.1, h.2.symm⟩)
  go_quiet ((first | (go_at_call 52; exact Calls.quiet_of_same ((room_st _ _).mono fun _ _ h => ⟨h.1, h.2.symm⟩)) | (go_at_call 51; with_reducible exact Calls.quiet_of_same (QA.out _ _)) | (go_at_call 51; with_reducible exact Calls.quiet_of_same (QB.out _ _))))
  go_wp2_with fail
  go_ret
  exact ⟨rfl, (SB.out.call (SC.out.call S53.out.drewN)).nil⟩

set_option maxRecDepth 100000 in
set_option maxHeartbeats 4000000 in
theorem pk_split (kind : Int) (c : Nat) (A1 : Option Addr) (n1 c1 : Nat) (D : List Nat) (A2 : Option Addr) (n c2 : Nat) (l : List Nat) (A3 : Option Addr) (n3 c3 : Nat) (vs : List Nat) (sf nil : Bool) (ah bh : Int) (w : World) (hD : D.length = n1) (hl : l.length = n) (hv : vs.length = n3) (hn1 : n1 ≤ 1048576) (hn : n ≤ 1048576) (hn3 : n3 ≤ 1048576) (h1 : Rd w A1 D) (h2 : Rd w A2 l) (h3 : RdV e16 w A3 vs) (h81 : B8 D) (h82 : B8 l) (h16 : W16 vs) (he : n % 2 = 0) :
    Calls Try.prog 46 #[.agg #[.int .i64 5, .int .u16 c, .slice A1 n1 c1, .slice A2 n c2, .slice A3 n3 c3, .bool sf, .bool nil, .int .i64 ah, .int .i64 bh]] w fun e w' => e = .returned (.bool true) ∧ St w w' [] [] := by
  have HD := Lib.hid hD; have HL := Lib.hid hl; have HV := Lib.hid hv; have R1 := Lib.hid h1; have R2 := Lib.hid h2; have R3 := Lib.hid h3; have H81 := Lib.hid h81; have H82 := Lib.hid h82; have H16 := Lib.hid h16
  clear hD hl hv h1 h2 h3 h81 h82 h16
  have HE := Lib.hid he
  obtain ⟨q, hq⟩ : ∃ q, n / 2 = q := ⟨_, rfl⟩
  have HLO : Hid ((lo l).length = q) := Lib.hid (by rw [lo_length, HL.out, hq])
  have HHI : Hid ((hi l).length = q) := Lib.hid (by rw [hi_length, HL.out, hq])
  have hqb : q ≤ 1048576 := by omega
  clear he hq
  have ha := rm_lt ah
  have hb := rm_lt bh
  have SA := Lib.hid (St.start w)
  go_enter Try.func46, Try.ntmps46
  go_wp2_with ((with_reducible refine at_slot (N := 1) rfl ?_); refine box_law rfl 72 _ _ rfl rfl SA.out ?_; intro ob w0 hs; have SB := Lib.hid hs; clear hs SA; have oc0 := (SB.out.blk mem0).cell (i := 0) rfl; have oc2 := (SB.out.blk mem0).cell (i := 2) rfl; have oc3 := (SB.out.blk mem0).cell (i := 3) rfl; have oc4 := (SB.out.blk mem0).cell (i := 4) rfl; have oc7 := (SB.out.blk mem0).cell (i := 7) rfl; have oc8 := (SB.out.blk mem0).cell (i := 8) rfl; have hob := SB.out.lt mem0; have S0 := Lib.hid (St.start w0))
  have R1' := Lib.hid (SB.out.ext R1.out); have R2' := Lib.hid (SB.out.ext R2.out); have R3' := Lib.hid (SB.out.extV R3.out)
  obtain ⟨rc0, rf0⟩ := S0.out.rules
  go_wp2_with fail
  clear rc0 rf0
  refine (laid_any HL.out (by omega) (S0.out.ext R2'.out) (by decide) (by decide)).mono ?_
  rintro e w1 ⟨Ns, bs, os, ccs, hNs, rfl, ps, hqs, hs⟩
  have HNs := Lib.hid hNs; have HQs := Lib.hid hqs; clear hNs hqs
  have h1 := S0.out.call hs; clear hs S0
  try simp only [List.nil_append, List.cons_append, List.append_eq, List.append_nil, Int.toNat_natCast] at h1
  rw [show (100 : Int).toNat = 100 from rfl] at h1
  have S1 := Lib.hid h1; clear h1
  obtain ⟨rc1, rf1⟩ := S1.out.rules
  go_wp2_with fail
  clear rc1 rf1
  refine (laid_any HD.out (by omega) (S1.out.ext R1'.out) (by decide) (by decide)).mono ?_
  rintro e w2 ⟨Nd, bd, od, ccd, hNd, rfl, pd, hqd, hs⟩
  have HNd := Lib.hid hNd; have HQd := Lib.hid hqd; clear hNd hqd
  have h2 := S1.out.call hs; clear hs S1
  try simp only [List.nil_append, List.cons_append, List.append_eq, List.append_nil, Int.toNat_natCast] at h2
  rw [show (7 : Int).toNat = 7 from rfl] at h2
  have S2 := Lib.hid h2; clear h2
  obtain ⟨rc2, rf2⟩ := S2.out.rules
  clear rc2 rf2
  have hNs : os + n ≤ Ns := by have := HNs.out; omega
  have hNd : od + n1 ≤ Nd := by have := HNd.out; omega
  have hNs3 : Ns ≤ 281474976710656 := by have := HNs.out; omega
  have hNd3 : Nd ≤ 281474976710656 := by have := HNd.out; omega
  have raS : rm ah + n ≤ Ns := by have := HNs.out; omega
  have raD : rm bh + n1 ≤ Nd := by have := HNd.out; omega
  have AS := Lib.hid (around_wr (around_mk (rm ah) n Ns 100) HL.out HQs.out raS ps)
  have AD := Lib.hid (around_wr (around_mk (rm bh) n1 Nd 7) HD.out HQd.out raD pd)
  have RS := Lib.hid (S2.out.rdWr mem1 (by rw [mkL_length, HL.out]; exact hNs))
  have RD := Lib.hid (S2.out.rdWr mem0 (by rw [mkL_length, HD.out]; exact hNd))
  have RSA := Lib.hid (S2.out.rd mem1)
  have RDA := Lib.hid (S2.out.rd mem0)
  have Q1 := Lib.hid (S2.out.ext R1'.out); have Q2 := Lib.hid (S2.out.ext R2'.out); have Q3 := Lib.hid (S2.out.extV R3'.out)
  have SC := S2
  replace oc0 := keep_cell SC.out oc0; replace oc2 := keep_cell SC.out oc2; replace oc3 := keep_cell SC.out oc3; replace oc4 := keep_cell SC.out oc4; replace oc7 := keep_cell SC.out oc7; replace oc8 := keep_cell SC.out oc8
  have hob' : ob < w2.heap.size := cell_lt oc0
  clear S2 hob hNs hNd
  have S50 := Lib.hid (St.start w2)
  obtain ⟨rc50, rf50⟩ := S50.out.rules
  go_wp2_with fail
  clear rc50 rf50
  refine (Split_st HL.out HE.out (by omega) (S50.out.ext RS.out) H82.out).mono ?_
  rintro e w51 ⟨v1, v2, G1, G2, rfl, hg1, hg2, hh⟩
  have h51 := S50.out.call hh; clear hh S50
  try simp only [List.nil_append, List.cons_append, List.append_eq, Int.toNat_natCast] at h51
  obtain ⟨A4, c4, rfl⟩ := hg1.shape; obtain ⟨A5, c5, rfl⟩ := hg2.shape; rw [HLO.out] at hg1 ⊢; rw [HHI.out] at hg2 ⊢; have HG1 := Lib.hid hg1; have HG2 := Lib.hid hg2; clear hg1 hg2
  have S51 := Lib.hid h51; clear h51
  obtain ⟨rc51, rf51⟩ := S51.out.rules
  go_wp2_with fail
  clear rc51 rf51
  refine (rsplit_st HL.out HE.out (by omega) (S51.out.ext Q2.out) H82.out).mono ?_
  rintro e w52 ⟨v3, v4, G3, G4, rfl, hg3, hg4, hh⟩
  have h52 := S51.out.call hh; clear hh S51
  try simp only [List.nil_append, List.cons_append, List.append_eq, Int.toNat_natCast] at h52
  obtain ⟨A6, c6, rfl⟩ := hg3.shape; obtain ⟨A7, c7, rfl⟩ := hg4.shape; rw [HLO.out] at hg3 ⊢; rw [HHI.out] at hg4 ⊢; have HG3 := Lib.hid hg3; have HG4 := Lib.hid hg4; clear hg3 hg4
  have S52 := Lib.hid h52; clear h52
  obtain ⟨rc52, rf52⟩ := S52.out.rules
  go_wp2_with fail
  clear rc52 rf52
  refine (equal_st HLO.out (by omega) (HG1.out.read S52.out (fun e he => by simp [he])) (HG3.out.read S52.out (fun e he => by simp [he]))).mono ?_
  rintro e w53 ⟨rfl, hh⟩
  have h53 := S52.out.call hh; clear hh S52
  try simp only [List.nil_append, List.cons_append, List.append_eq, Int.toNat_natCast] at h53
  have S53 := Lib.hid h53; clear h53
  obtain ⟨rc53, rf53⟩ := S53.out.rules
  go_wp2_with fail
  clear rc53 rf53
  refine (equal_st HHI.out (by omega) (HG2.out.read S53.out (fun e he => by simp [he])) (HG4.out.read S53.out (fun e he => by simp [he]))).mono ?_
  rintro e w54 ⟨rfl, hh⟩
  have h54 := S53.out.call hh; clear hh S53
  try simp only [List.nil_append, List.cons_append, List.append_eq, Int.toNat_natCast] at h54
  have S54 := Lib.hid h54; clear h54
  obtain ⟨rc54, rf54⟩ := S54.out.rules
  go_wp2_with fail
  clear rc54 rf54
  refine (equal_st HL.out (by omega) (S54.out.ext RS.out) (S54.out.ext Q2.out)).mono ?_
  rintro e w55 ⟨rfl, hh⟩
  have h55 := S54.out.call hh; clear hh S54
  try simp only [List.nil_append, List.cons_append, List.append_eq, Int.toNat_natCast] at h55
  have S55 := Lib.hid h55; clear h55
  obtain ⟨rc55, rf55⟩ := S55.out.rules
  go_wp2_with fail
  clear rc55 rf55
  refine (equal_st HD.out (by omega) (S55.out.ext RD.out) (S55.out.ext Q1.out)).mono ?_
  rintro e w56 ⟨rfl, hh⟩
  have h56 := S55.out.call hh; clear hh S55
  try simp only [List.nil_append, List.cons_append, List.append_eq, Int.toNat_natCast] at h56
  have S56 := Lib.hid h56; clear h56
  obtain ⟨rc56, rf56⟩ := S56.out.rules
  go_wp2_with fail
  have QA : Hid (∀ m cp : Nat, Calls Try.prog 51 #[.slice (some ⟨bs, 0, none⟩) Ns cp, .int .i64 ((rm ah : Nat) : Int), .int .i64 (n : Int), .int .u8 100] (w56.drewN m) (fun e w' => e = .returned (.bool true) ∧ w' = w56.drewN m)) := Lib.hid (fun m cp => (around_any (mark := 100) (by decide) AS.out (S56.out.drewN.ext RSA.out) hNs3 (by omega) (by omega)).mono fun _ _ h => ⟨h.1, h.2.symm⟩)
  have QB : Hid (∀ m cp : Nat, Calls Try.prog 51 #[.slice (some ⟨bd, 0, none⟩) Nd cp, .int .i64 ((rm bh : Nat) : Int), .int .i64 (n1 : Int), .int .u8 7] (w56.drewN m) (fun e w' => e = .returned (.bool true) ∧ w' = w56.drewN m)) := Lib.hid (fun m cp => (around_any (mark := 7) (by decide) AD.out (S56.out.drewN.ext RDA.out) hNd3 (by omega) (by omega)).mono fun _ _ h => ⟨h.1, h.2.symm⟩)
  go_quiet ((first | (go_at_call 52; exact Calls.quiet_of_same ((room_st _ _).mono fun _ _ h => ⟨h.1, h.2.symm⟩)) | (go_at_call 51; with_reducible exact Calls.quiet_of_same (QA.out _ _)) | (go_at_call 51; with_reducible exact Calls.quiet_of_same (QB.out _ _))))
  go_wp2_with fail
  go_ret
  exact ⟨rfl, (SB.out.call (SC.out.call S56.out.drewN)).nil⟩

set_option maxRecDepth 100000 in
set_option maxHeartbeats 4000000 in
theorem pk_split_odd (kind : Int) (c : Nat) (A1 : Option Addr) (n1 c1 : Nat) (D : List Nat) (A2 : Option Addr) (n c2 : Nat) (l : List Nat) (A3 : Option Addr) (n3 c3 : Nat) (vs : List Nat) (sf nil : Bool) (ah bh : Int) (w : World) (hD : D.length = n1) (hl : l.length = n) (hv : vs.length = n3) (hn1 : n1 ≤ 1048576) (hn : n ≤ 1048576) (hn3 : n3 ≤ 1048576) (h1 : Rd w A1 D) (h2 : Rd w A2 l) (h3 : RdV e16 w A3 vs) (h81 : B8 D) (h82 : B8 l) (h16 : W16 vs) (he : n % 2 = 1) :
    Calls Try.prog 46 #[.agg #[.int .i64 5, .int .u16 c, .slice A1 n1 c1, .slice A2 n c2, .slice A3 n3 c3, .bool sf, .bool nil, .int .i64 ah, .int .i64 bh]] w fun e w' => e = .returned (.bool true) ∧ St w w' [] [] := by
  have HD := Lib.hid hD; have HL := Lib.hid hl; have HV := Lib.hid hv; have R1 := Lib.hid h1; have R2 := Lib.hid h2; have R3 := Lib.hid h3; have H81 := Lib.hid h81; have H82 := Lib.hid h82; have H16 := Lib.hid h16
  clear hD hl hv h1 h2 h3 h81 h82 h16
  have HE := Lib.hid he
  clear he
  have ha := rm_lt ah
  have hb := rm_lt bh
  have SA := Lib.hid (St.start w)
  go_enter Try.func46, Try.ntmps46
  go_wp2_with ((with_reducible refine at_slot (N := 1) rfl ?_); refine box_law rfl 72 _ _ rfl rfl SA.out ?_; intro ob w0 hs; have SB := Lib.hid hs; clear hs SA; have oc0 := (SB.out.blk mem0).cell (i := 0) rfl; have oc2 := (SB.out.blk mem0).cell (i := 2) rfl; have oc3 := (SB.out.blk mem0).cell (i := 3) rfl; have oc4 := (SB.out.blk mem0).cell (i := 4) rfl; have oc7 := (SB.out.blk mem0).cell (i := 7) rfl; have oc8 := (SB.out.blk mem0).cell (i := 8) rfl; have hob := SB.out.lt mem0; have S0 := Lib.hid (St.start w0))
  have R1' := Lib.hid (SB.out.ext R1.out); have R2' := Lib.hid (SB.out.ext R2.out); have R3' := Lib.hid (SB.out.extV R3.out)
  obtain ⟨rc0, rf0⟩ := S0.out.rules
  go_wp2_with fail
  clear rc0 rf0
  refine (laid_any HL.out (by omega) (S0.out.ext R2'.out) (by decide) (by decide)).mono ?_
  rintro e w1 ⟨Ns, bs, os, ccs, hNs, rfl, ps, hqs, hs⟩
  have HNs := Lib.hid hNs; have HQs := Lib.hid hqs; clear hNs hqs
  have h1 := S0.out.call hs; clear hs S0
  try simp only [List.nil_append, List.cons_append, List.append_eq, List.append_nil, Int.toNat_natCast] at h1
  rw [show (100 : Int).toNat = 100 from rfl] at h1
  have S1 := Lib.hid h1; clear h1
  obtain ⟨rc1, rf1⟩ := S1.out.rules
  go_wp2_with fail
  clear rc1 rf1
  refine (laid_any HD.out (by omega) (S1.out.ext R1'.out) (by decide) (by decide)).mono ?_
  rintro e w2 ⟨Nd, bd, od, ccd, hNd, rfl, pd, hqd, hs⟩
  have HNd := Lib.hid hNd; have HQd := Lib.hid hqd; clear hNd hqd
  have h2 := S1.out.call hs; clear hs S1
  try simp only [List.nil_append, List.cons_append, List.append_eq, List.append_nil, Int.toNat_natCast] at h2
  rw [show (7 : Int).toNat = 7 from rfl] at h2
  have S2 := Lib.hid h2; clear h2
  obtain ⟨rc2, rf2⟩ := S2.out.rules
  clear rc2 rf2
  have hNs : os + n ≤ Ns := by have := HNs.out; omega
  have hNd : od + n1 ≤ Nd := by have := HNd.out; omega
  have hNs3 : Ns ≤ 281474976710656 := by have := HNs.out; omega
  have hNd3 : Nd ≤ 281474976710656 := by have := HNd.out; omega
  have raS : rm ah + n ≤ Ns := by have := HNs.out; omega
  have raD : rm bh + n1 ≤ Nd := by have := HNd.out; omega
  have AS := Lib.hid (around_wr (around_mk (rm ah) n Ns 100) HL.out HQs.out raS ps)
  have AD := Lib.hid (around_wr (around_mk (rm bh) n1 Nd 7) HD.out HQd.out raD pd)
  have RS := Lib.hid (S2.out.rdWr mem1 (by rw [mkL_length, HL.out]; exact hNs))
  have RD := Lib.hid (S2.out.rdWr mem0 (by rw [mkL_length, HD.out]; exact hNd))
  have RSA := Lib.hid (S2.out.rd mem1)
  have RDA := Lib.hid (S2.out.rd mem0)
  have Q1 := Lib.hid (S2.out.ext R1'.out); have Q2 := Lib.hid (S2.out.ext R2'.out); have Q3 := Lib.hid (S2.out.extV R3'.out)
  have SC := S2
  replace oc0 := keep_cell SC.out oc0; replace oc2 := keep_cell SC.out oc2; replace oc3 := keep_cell SC.out oc3; replace oc4 := keep_cell SC.out oc4; replace oc7 := keep_cell SC.out oc7; replace oc8 := keep_cell SC.out oc8
  have hob' : ob < w2.heap.size := cell_lt oc0
  clear S2 hob hNs hNd
  have S50 := Lib.hid (St.start w2)
  obtain ⟨rc50, rf50⟩ := S50.out.rules
  go_wp2_with fail
  refine (split_odd _ _ _ _ HE.out).mono ?_
  rintro e _ ⟨rfl, rfl⟩
  go_wp2_with fail
  refine (rsplit_odd _ _ _ _ HE.out).mono ?_
  rintro e _ ⟨rfl, rfl⟩
  go_wp2_with fail
  clear rc50 rf50
  refine (equal_st (l := []) rfl (by decide) (Rd.nil _ _) (Rd.nil _ _)).mono ?_
  rintro e w51 ⟨rfl, hh⟩
  have h51 := S50.out.call hh; clear hh S50
  try simp only [List.nil_append, List.cons_append, List.append_eq, Int.toNat_natCast] at h51
  have S51 := Lib.hid h51; clear h51
  obtain ⟨rc51, rf51⟩ := S51.out.rules
  go_wp2_with fail
  clear rc51 rf51
  refine (equal_st (l := []) rfl (by decide) (Rd.nil _ _) (Rd.nil _ _)).mono ?_
  rintro e w52 ⟨rfl, hh⟩
  have h52 := S51.out.call hh; clear hh S51
  try simp only [List.nil_append, List.cons_append, List.append_eq, Int.toNat_natCast] at h52
  have S52 := Lib.hid h52; clear h52
  obtain ⟨rc52, rf52⟩ := S52.out.rules
  go_wp2_with fail
  clear rc52 rf52
  refine (equal_st HL.out (by omega) (S52.out.ext RS.out) (S52.out.ext Q2.out)).mono ?_
  rintro e w53 ⟨rfl, hh⟩
  have h53 := S52.out.call hh; clear hh S52
  try simp only [List.nil_append, List.cons_append, List.append_eq, Int.toNat_natCast] at h53
  have S53 := Lib.hid h53; clear h53
  obtain ⟨rc53, rf53⟩ := S53.out.rules
  go_wp2_with fail
  clear rc53 rf53
  refine (equal_st HD.out (by omega) (S53.out.ext RD.out) (S53.out.ext Q1.out)).mono ?_
  rintro e w54 ⟨rfl, hh⟩
  have h54 := S53.out.call hh; clear hh S53
  try simp only [List.nil_append, List.cons_append, List.append_eq, Int.toNat_natCast] at h54
  have S54 := Lib.hid h54; clear h54
  obtain ⟨rc54, rf54⟩ := S54.out.rules
  go_wp2_with fail
  have QA : Hid (∀ m cp : Nat, Calls Try.prog 51 #[.slice (some ⟨bs, 0, none⟩) Ns cp, .int .i64 ((rm ah : Nat) : Int), .int .i64 (n : Int), .int .u8 100] (w54.drewN m) (fun e w' => e = .returned (.bool true) ∧ w' = w54.drewN m)) := Lib.hid (fun m cp => (around_any (mark := 100) (by decide) AS.out (S54.out.drewN.ext RSA.out) hNs3 (by omega) (by omega)).mono fun _ _ h => ⟨h.1, h.2.symm⟩)
  have QB : Hid (∀ m cp : Nat, Calls Try.prog 51 #[.slice (some ⟨bd, 0, none⟩) Nd cp, .int .i64 ((rm bh : Nat) : Int), .int .i64 (n1 : Int), .int .u8 7] (w54.drewN m) (fun e w' => e = .returned (.bool true) ∧ w' = w54.drewN m)) := Lib.hid (fun m cp => (around_any (mark := 7) (by decide) AD.out (S54.out.drewN.ext RDA.out) hNd3 (by omega) (by omega)).mono fun _ _ h => ⟨h.1, h.2.symm⟩)
  go_quiet ((first | (go_at_call 52; exact Calls.quiet_of_same ((room_st _ _).mono fun _ _ h => ⟨h.1, h.2.symm⟩)) | (go_at_call 51; with_reducible exact Calls.quiet_of_same (QA.out _ _)) | (go_at_call 51; with_reducible exact Calls.quiet_of_same (QB.out _ _))))
  go_wp2_with fail
  go_ret
  exact ⟨rfl, (SB.out.call (SC.out.call S54.out.drewN)).nil⟩

set_option maxRecDepth 100000 in
set_option maxHeartbeats 4000000 in
theorem pk_merge (kind : Int) (c : Nat) (A1 : Option Addr) (n1 c1 : Nat) (D : List Nat) (A2 : Option Addr) (n c2 : Nat) (l : List Nat) (A3 : Option Addr) (n3 c3 : Nat) (vs : List Nat) (sf nil : Bool) (ah bh : Int) (w : World) (hD : D.length = n1) (hl : l.length = n) (hv : vs.length = n3) (hn1 : n1 ≤ 1048576) (hn : n ≤ 1048576) (hn3 : n3 ≤ 1048576) (h1 : Rd w A1 D) (h2 : Rd w A2 l) (h3 : RdV e16 w A3 vs) (h81 : B8 D) (h82 : B8 l) (h16 : W16 vs) (he : n = n1) :
    Calls Try.prog 46 #[.agg #[.int .i64 6, .int .u16 c, .slice A1 n1 c1, .slice A2 n c2, .slice A3 n3 c3, .bool sf, .bool nil, .int .i64 ah, .int .i64 bh]] w fun e w' => e = .returned (.bool true) ∧ St w w' [] [] := by
  have HD := Lib.hid hD; have HL := Lib.hid hl; have HV := Lib.hid hv; have R1 := Lib.hid h1; have R2 := Lib.hid h2; have R3 := Lib.hid h3; have H81 := Lib.hid h81; have H82 := Lib.hid h82; have H16 := Lib.hid h16
  clear hD hl hv h1 h2 h3 h81 h82 h16
  obtain rfl := he
  obtain ⟨m, hm⟩ : ∃ m, 2 * n = m := ⟨_, rfl⟩
  have HML : Hid ((mg l D n).length = m) := Lib.hid (by rw [mg_length, hm])
  have hmb : m ≤ 2097152 := by omega
  clear hm
  have ha := rm_lt ah
  have hb := rm_lt bh
  have SA := Lib.hid (St.start w)
  go_enter Try.func46, Try.ntmps46
  go_wp2_with ((with_reducible refine at_slot (N := 1) rfl ?_); refine box_law rfl 72 _ _ rfl rfl SA.out ?_; intro ob w0 hs; have SB := Lib.hid hs; clear hs SA; have oc0 := (SB.out.blk mem0).cell (i := 0) rfl; have oc2 := (SB.out.blk mem0).cell (i := 2) rfl; have oc3 := (SB.out.blk mem0).cell (i := 3) rfl; have oc4 := (SB.out.blk mem0).cell (i := 4) rfl; have oc7 := (SB.out.blk mem0).cell (i := 7) rfl; have oc8 := (SB.out.blk mem0).cell (i := 8) rfl; have hob := SB.out.lt mem0; have S0 := Lib.hid (St.start w0))
  have R1' := Lib.hid (SB.out.ext R1.out); have R2' := Lib.hid (SB.out.ext R2.out); have R3' := Lib.hid (SB.out.extV R3.out)
  obtain ⟨rc0, rf0⟩ := S0.out.rules
  go_wp2_with fail
  clear rc0 rf0
  refine (laid_any HL.out (by omega) (S0.out.ext R2'.out) (by decide) (by decide)).mono ?_
  rintro e w1 ⟨Ns, bs, os, ccs, hNs, rfl, ps, hqs, hs⟩
  have HNs := Lib.hid hNs; have HQs := Lib.hid hqs; clear hNs hqs
  have h1 := S0.out.call hs; clear hs S0
  try simp only [List.nil_append, List.cons_append, List.append_eq, List.append_nil, Int.toNat_natCast] at h1
  rw [show (100 : Int).toNat = 100 from rfl] at h1
  have S1 := Lib.hid h1; clear h1
  obtain ⟨rc1, rf1⟩ := S1.out.rules
  go_wp2_with fail
  clear rc1 rf1
  refine (laid_any HD.out (by omega) (S1.out.ext R1'.out) (by decide) (by decide)).mono ?_
  rintro e w2 ⟨Nd, bd, od, ccd, hNd, rfl, pd, hqd, hs⟩
  have HNd := Lib.hid hNd; have HQd := Lib.hid hqd; clear hNd hqd
  have h2 := S1.out.call hs; clear hs S1
  try simp only [List.nil_append, List.cons_append, List.append_eq, List.append_nil, Int.toNat_natCast] at h2
  rw [show (7 : Int).toNat = 7 from rfl] at h2
  have S2 := Lib.hid h2; clear h2
  obtain ⟨rc2, rf2⟩ := S2.out.rules
  clear rc2 rf2
  have hNs : os + n ≤ Ns := by have := HNs.out; omega
  have hNd : od + n ≤ Nd := by have := HNd.out; omega
  have hNs3 : Ns ≤ 281474976710656 := by have := HNs.out; omega
  have hNd3 : Nd ≤ 281474976710656 := by have := HNd.out; omega
  have raS : rm ah + n ≤ Ns := by have := HNs.out; omega
  have raD : rm bh + n ≤ Nd := by have := HNd.out; omega
  have AS := Lib.hid (around_wr (around_mk (rm ah) n Ns 100) HL.out HQs.out raS ps)
  have AD := Lib.hid (around_wr (around_mk (rm bh) n Nd 7) HD.out HQd.out raD pd)
  have RS := Lib.hid (S2.out.rdWr mem1 (by rw [mkL_length, HL.out]; exact hNs))
  have RD := Lib.hid (S2.out.rdWr mem0 (by rw [mkL_length, HD.out]; exact hNd))
  have RSA := Lib.hid (S2.out.rd mem1)
  have RDA := Lib.hid (S2.out.rd mem0)
  have Q1 := Lib.hid (S2.out.ext R1'.out); have Q2 := Lib.hid (S2.out.ext R2'.out); have Q3 := Lib.hid (S2.out.extV R3'.out)
  have SC := S2
  replace oc0 := keep_cell SC.out oc0; replace oc2 := keep_cell SC.out oc2; replace oc3 := keep_cell SC.out oc3; replace oc4 := keep_cell SC.out oc4; replace oc7 := keep_cell SC.out oc7; replace oc8 := keep_cell SC.out oc8
  have hob' : ob < w2.heap.size := cell_lt oc0
  clear S2 hob hNs hNd
  have S50 := Lib.hid (St.start w2)
  obtain ⟨rc50, rf50⟩ := S50.out.rules
  go_wp2_with fail
  clear rc50 rf50
  refine (Merge_st HL.out HD.out (by omega) (S50.out.ext RS.out) (S50.out.ext RD.out) H82.out H81.out).mono ?_
  rintro e w51 ⟨v1, G1, rfl, hg1, hh⟩
  have h51 := S50.out.call hh; clear hh S50
  try simp only [List.nil_append, List.cons_append, List.append_eq, Int.toNat_natCast] at h51
  obtain ⟨A4, c4, rfl⟩ := hg1.shape; rw [HML.out] at hg1 ⊢; have HG1 := Lib.hid hg1; clear hg1
  have S51 := Lib.hid h51; clear h51
  obtain ⟨rc51, rf51⟩ := S51.out.rules
  go_wp2_with fail
  clear rc51 rf51
  refine (rmerge_st HL.out HD.out (by omega) (S51.out.ext Q2.out) (S51.out.ext Q1.out) H82.out H81.out).mono ?_
  rintro e w52 ⟨v2, G2, rfl, hg2, hh⟩
  have h52 := S51.out.call hh; clear hh S51
  try simp only [List.nil_append, List.cons_append, List.append_eq, Int.toNat_natCast] at h52
  obtain ⟨A5, c5, rfl⟩ := hg2.shape; rw [HML.out] at hg2 ⊢; have HG2 := Lib.hid hg2; clear hg2
  have S52 := Lib.hid h52; clear h52
  obtain ⟨rc52, rf52⟩ := S52.out.rules
  go_wp2_with fail
  clear rc52 rf52
  refine (equal_st HML.out (by omega) (HG1.out.read S52.out (fun e he => by simp [he])) (HG2.out.read S52.out (fun e he => by simp [he]))).mono ?_
  rintro e w53 ⟨rfl, hh⟩
  have h53 := S52.out.call hh; clear hh S52
  try simp only [List.nil_append, List.cons_append, List.append_eq, Int.toNat_natCast] at h53
  have S53 := Lib.hid h53; clear h53
  obtain ⟨rc53, rf53⟩ := S53.out.rules
  go_wp2_with fail
  clear rc53 rf53
  refine (equal_st HL.out (by omega) (S53.out.ext RS.out) (S53.out.ext Q2.out)).mono ?_
  rintro e w54 ⟨rfl, hh⟩
  have h54 := S53.out.call hh; clear hh S53
  try simp only [List.nil_append, List.cons_append, List.append_eq, Int.toNat_natCast] at h54
  have S54 := Lib.hid h54; clear h54
  obtain ⟨rc54, rf54⟩ := S54.out.rules
  go_wp2_with fail
  clear rc54 rf54
  refine (equal_st HD.out (by omega) (S54.out.ext RD.out) (S54.out.ext Q1.out)).mono ?_
  rintro e w55 ⟨rfl, hh⟩
  have h55 := S54.out.call hh; clear hh S54
  try simp only [List.nil_append, List.cons_append, List.append_eq, Int.toNat_natCast] at h55
  have S55 := Lib.hid h55; clear h55
  obtain ⟨rc55, rf55⟩ := S55.out.rules
  go_wp2_with fail
  have QA : Hid (∀ m cp : Nat, Calls Try.prog 51 #[.slice (some ⟨bs, 0, none⟩) Ns cp, .int .i64 ((rm ah : Nat) : Int), .int .i64 (n : Int), .int .u8 100] (w55.drewN m) (fun e w' => e = .returned (.bool true) ∧ w' = w55.drewN m)) := Lib.hid (fun m cp => (around_any (mark := 100) (by decide) AS.out (S55.out.drewN.ext RSA.out) hNs3 (by omega) (by omega)).mono fun _ _ h => ⟨h.1, h.2.symm⟩)
  have QB : Hid (∀ m cp : Nat, Calls Try.prog 51 #[.slice (some ⟨bd, 0, none⟩) Nd cp, .int .i64 ((rm bh : Nat) : Int), .int .i64 (n : Int), .int .u8 7] (w55.drewN m) (fun e w' => e = .returned (.bool true) ∧ w' = w55.drewN m)) := Lib.hid (fun m cp => (around_any (mark := 7) (by decide) AD.out (S55.out.drewN.ext RDA.out) hNd3 (by omega) (by omega)).mono fun _ _ h => ⟨h.1, h.2.symm⟩)
  go_quiet ((first | (go_at_call 52; exact Calls.quiet_of_same ((room_st _ _).mono fun _ _ h => ⟨h.1, h.2.symm⟩)) | (go_at_call 51; with_reducible exact Calls.quiet_of_same (QA.out _ _)) | (go_at_call 51; with_reducible exact Calls.quiet_of_same (QB.out _ _))))
  go_wp2_with fail
  go_ret
  exact ⟨rfl, (SB.out.call (SC.out.call S55.out.drewN)).nil⟩

set_option maxRecDepth 100000 in
set_option maxHeartbeats 4000000 in
theorem pk_merge_ne (kind : Int) (c : Nat) (A1 : Option Addr) (n1 c1 : Nat) (D : List Nat) (A2 : Option Addr) (n c2 : Nat) (l : List Nat) (A3 : Option Addr) (n3 c3 : Nat) (vs : List Nat) (sf nil : Bool) (ah bh : Int) (w : World) (hD : D.length = n1) (hl : l.length = n) (hv : vs.length = n3) (hn1 : n1 ≤ 1048576) (hn : n ≤ 1048576) (hn3 : n3 ≤ 1048576) (h1 : Rd w A1 D) (h2 : Rd w A2 l) (h3 : RdV e16 w A3 vs) (h81 : B8 D) (h82 : B8 l) (h16 : W16 vs) (he : n ≠ n1) :
    Calls Try.prog 46 #[.agg #[.int .i64 6, .int .u16 c, .slice A1 n1 c1, .slice A2 n c2, .slice A3 n3 c3, .bool sf, .bool nil, .int .i64 ah, .int .i64 bh]] w fun e w' => e = .returned (.bool true) ∧ St w w' [] [] := by
  have HD := Lib.hid hD; have HL := Lib.hid hl; have HV := Lib.hid hv; have R1 := Lib.hid h1; have R2 := Lib.hid h2; have R3 := Lib.hid h3; have H81 := Lib.hid h81; have H82 := Lib.hid h82; have H16 := Lib.hid h16
  clear hD hl hv h1 h2 h3 h81 h82 h16
  have HE := Lib.hid he
  clear he
  have ha := rm_lt ah
  have hb := rm_lt bh
  have SA := Lib.hid (St.start w)
  go_enter Try.func46, Try.ntmps46
  go_wp2_with ((with_reducible refine at_slot (N := 1) rfl ?_); refine box_law rfl 72 _ _ rfl rfl SA.out ?_; intro ob w0 hs; have SB := Lib.hid hs; clear hs SA; have oc0 := (SB.out.blk mem0).cell (i := 0) rfl; have oc2 := (SB.out.blk mem0).cell (i := 2) rfl; have oc3 := (SB.out.blk mem0).cell (i := 3) rfl; have oc4 := (SB.out.blk mem0).cell (i := 4) rfl; have oc7 := (SB.out.blk mem0).cell (i := 7) rfl; have oc8 := (SB.out.blk mem0).cell (i := 8) rfl; have hob := SB.out.lt mem0; have S0 := Lib.hid (St.start w0))
  have R1' := Lib.hid (SB.out.ext R1.out); have R2' := Lib.hid (SB.out.ext R2.out); have R3' := Lib.hid (SB.out.extV R3.out)
  obtain ⟨rc0, rf0⟩ := S0.out.rules
  go_wp2_with fail
  clear rc0 rf0
  refine (laid_any HL.out (by omega) (S0.out.ext R2'.out) (by decide) (by decide)).mono ?_
  rintro e w1 ⟨Ns, bs, os, ccs, hNs, rfl, ps, hqs, hs⟩
  have HNs := Lib.hid hNs; have HQs := Lib.hid hqs; clear hNs hqs
  have h1 := S0.out.call hs; clear hs S0
  try simp only [List.nil_append, List.cons_append, List.append_eq, List.append_nil, Int.toNat_natCast] at h1
  rw [show (100 : Int).toNat = 100 from rfl] at h1
  have S1 := Lib.hid h1; clear h1
  obtain ⟨rc1, rf1⟩ := S1.out.rules
  go_wp2_with fail
  clear rc1 rf1
  refine (laid_any HD.out (by omega) (S1.out.ext R1'.out) (by decide) (by decide)).mono ?_
  rintro e w2 ⟨Nd, bd, od, ccd, hNd, rfl, pd, hqd, hs⟩
  have HNd := Lib.hid hNd; have HQd := Lib.hid hqd; clear hNd hqd
  have h2 := S1.out.call hs; clear hs S1
  try simp only [List.nil_append, List.cons_append, List.append_eq, List.append_nil, Int.toNat_natCast] at h2
  rw [show (7 : Int).toNat = 7 from rfl] at h2
  have S2 := Lib.hid h2; clear h2
  obtain ⟨rc2, rf2⟩ := S2.out.rules
  clear rc2 rf2
  have hNs : os + n ≤ Ns := by have := HNs.out; omega
  have hNd : od + n1 ≤ Nd := by have := HNd.out; omega
  have hNs3 : Ns ≤ 281474976710656 := by have := HNs.out; omega
  have hNd3 : Nd ≤ 281474976710656 := by have := HNd.out; omega
  have raS : rm ah + n ≤ Ns := by have := HNs.out; omega
  have raD : rm bh + n1 ≤ Nd := by have := HNd.out; omega
  have AS := Lib.hid (around_wr (around_mk (rm ah) n Ns 100) HL.out HQs.out raS ps)
  have AD := Lib.hid (around_wr (around_mk (rm bh) n1 Nd 7) HD.out HQd.out raD pd)
  have RS := Lib.hid (S2.out.rdWr mem1 (by rw [mkL_length, HL.out]; exact hNs))
  have RD := Lib.hid (S2.out.rdWr mem0 (by rw [mkL_length, HD.out]; exact hNd))
  have RSA := Lib.hid (S2.out.rd mem1)
  have RDA := Lib.hid (S2.out.rd mem0)
  have Q1 := Lib.hid (S2.out.ext R1'.out); have Q2 := Lib.hid (S2.out.ext R2'.out); have Q3 := Lib.hid (S2.out.extV R3'.out)
  have SC := S2
  replace oc0 := keep_cell SC.out oc0; replace oc2 := keep_cell SC.out oc2; replace oc3 := keep_cell SC.out oc3; replace oc4 := keep_cell SC.out oc4; replace oc7 := keep_cell SC.out oc7; replace oc8 := keep_cell SC.out oc8
  have hob' : ob < w2.heap.size := cell_lt oc0
  clear S2 hob hNs hNd
  have S50 := Lib.hid (St.start w2)
  obtain ⟨rc50, rf50⟩ := S50.out.rules
  go_wp2_with fail
  refine (merge_ne _ _ _ _ _ _ _ HE.out).mono ?_
  rintro e _ ⟨rfl, rfl⟩
  go_wp2_with fail
  refine (rmerge_ne _ _ _ _ _ _ _ HE.out).mono ?_
  rintro e _ ⟨rfl, rfl⟩
  go_wp2_with fail
  clear rc50 rf50
  refine (equal_st (l := []) rfl (by decide) (Rd.nil _ _) (Rd.nil _ _)).mono ?_
  rintro e w51 ⟨rfl, hh⟩
  have h51 := S50.out.call hh; clear hh S50
  try simp only [List.nil_append, List.cons_append, List.append_eq, Int.toNat_natCast] at h51
  have S51 := Lib.hid h51; clear h51
  obtain ⟨rc51, rf51⟩ := S51.out.rules
  go_wp2_with fail
  clear rc51 rf51
  refine (equal_st HL.out (by omega) (S51.out.ext RS.out) (S51.out.ext Q2.out)).mono ?_
  rintro e w52 ⟨rfl, hh⟩
  have h52 := S51.out.call hh; clear hh S51
  try simp only [List.nil_append, List.cons_append, List.append_eq, Int.toNat_natCast] at h52
  have S52 := Lib.hid h52; clear h52
  obtain ⟨rc52, rf52⟩ := S52.out.rules
  go_wp2_with fail
  clear rc52 rf52
  refine (equal_st HD.out (by omega) (S52.out.ext RD.out) (S52.out.ext Q1.out)).mono ?_
  rintro e w53 ⟨rfl, hh⟩
  have h53 := S52.out.call hh; clear hh S52
  try simp only [List.nil_append, List.cons_append, List.append_eq, Int.toNat_natCast] at h53
  have S53 := Lib.hid h53; clear h53
  obtain ⟨rc53, rf53⟩ := S53.out.rules
  go_wp2_with fail
  have QA : Hid (∀ m cp : Nat, Calls Try.prog 51 #[.slice (some ⟨bs, 0, none⟩) Ns cp, .int .i64 ((rm ah : Nat) : Int), .int .i64 (n : Int), .int .u8 100] (w53.drewN m) (fun e w' => e = .returned (.bool true) ∧ w' = w53.drewN m)) := Lib.hid (fun m cp => (around_any (mark := 100) (by decide) AS.out (S53.out.drewN.ext RSA.out) hNs3 (by omega) (by omega)).mono fun _ _ h => ⟨h.1, h.2.symm⟩)
  have QB : Hid (∀ m cp : Nat, Calls Try.prog 51 #[.slice (some ⟨bd, 0, none⟩) Nd cp, .int .i64 ((rm bh : Nat) : Int), .int .i64 (n1 : Int), .int .u8 7] (w53.drewN m) (fun e w' => e = .returned (.bool true) ∧ w' = w53.drewN m)) := Lib.hid (fun m cp => (around_any (mark := 7) (by decide) AD.out (S53.out.drewN.ext RDA.out) hNd3 (by omega) (by omega)).mono fun _ _ h => ⟨h.1, h.2.symm⟩)
  go_quiet ((first | (go_at_call 52; exact Calls.quiet_of_same ((room_st _ _).mono fun _ _ h => ⟨h.1, h.2.symm⟩)) | (go_at_call 51; with_reducible exact Calls.quiet_of_same (QA.out _ _)) | (go_at_call 51; with_reducible exact Calls.quiet_of_same (QB.out _ _))))
  go_wp2_with fail
  go_ret
  exact ⟨rfl, (SB.out.call (SC.out.call S53.out.drewN)).nil⟩

set_option maxRecDepth 100000 in
set_option maxHeartbeats 4000000 in
theorem pk_bytes (kind : Int) (c : Nat) (A1 : Option Addr) (n1 c1 : Nat) (D : List Nat) (A2 : Option Addr) (n c2 : Nat) (l : List Nat) (A3 : Option Addr) (n3 c3 : Nat) (vs : List Nat) (sf nil : Bool) (ah bh : Int) (w : World) (hD : D.length = n1) (hl : l.length = n) (hv : vs.length = n3) (hn1 : n1 ≤ 1048576) (hn : n ≤ 1048576) (hn3 : n3 ≤ 1048576) (h1 : Rd w A1 D) (h2 : Rd w A2 l) (h3 : RdV e16 w A3 vs) (h81 : B8 D) (h82 : B8 l) (h16 : W16 vs) :
    Calls Try.prog 46 #[.agg #[.int .i64 4, .int .u16 c, .slice A1 n1 c1, .slice A2 n c2, .slice A3 n3 c3, .bool sf, .bool nil, .int .i64 ah, .int .i64 bh]] w fun e w' => e = .returned (.bool true) ∧ St w w' [] [] := by
  have HD := Lib.hid hD; have HL := Lib.hid hl; have HV := Lib.hid hv; have R1 := Lib.hid h1; have R2 := Lib.hid h2; have R3 := Lib.hid h3; have H81 := Lib.hid h81; have H82 := Lib.hid h82; have H16 := Lib.hid h16
  clear hD hl hv h1 h2 h3 h81 h82 h16
  obtain ⟨m, hm⟩ : ∃ m, 2 * n3 = m := ⟨_, rfl⟩
  have HBL : Hid ((Pq.bs vs).length = m) := Lib.hid (by rw [bs_length, HV.out, hm])
  have hmb : m ≤ 2097152 := by omega
  clear hm
  have ha := rm_lt ah
  have hb := rm_lt bh
  have SA := Lib.hid (St.start w)
  go_enter Try.func46, Try.ntmps46
  go_wp2_with ((with_reducible refine at_slot (N := 1) rfl ?_); refine box_law rfl 72 _ _ rfl rfl SA.out ?_; intro ob w0 hs; have SB := Lib.hid hs; clear hs SA; have oc0 := (SB.out.blk mem0).cell (i := 0) rfl; have oc2 := (SB.out.blk mem0).cell (i := 2) rfl; have oc3 := (SB.out.blk mem0).cell (i := 3) rfl; have oc4 := (SB.out.blk mem0).cell (i := 4) rfl; have oc7 := (SB.out.blk mem0).cell (i := 7) rfl; have oc8 := (SB.out.blk mem0).cell (i := 8) rfl; have hob := SB.out.lt mem0; have S0 := Lib.hid (St.start w0))
  have R1' := Lib.hid (SB.out.ext R1.out); have R2' := Lib.hid (SB.out.ext R2.out); have R3' := Lib.hid (SB.out.extV R3.out)
  obtain ⟨rc0, rf0⟩ := S0.out.rules
  go_wp2_with fail
  clear rc0 rf0
  refine (laid_any HL.out (by omega) (S0.out.ext R2'.out) (by decide) (by decide)).mono ?_
  rintro e w1 ⟨Ns, bs, os, ccs, hNs, rfl, ps, hqs, hs⟩
  have HNs := Lib.hid hNs; have HQs := Lib.hid hqs; clear hNs hqs
  have h1 := S0.out.call hs; clear hs S0
  try simp only [List.nil_append, List.cons_append, List.append_eq, List.append_nil, Int.toNat_natCast] at h1
  rw [show (100 : Int).toNat = 100 from rfl] at h1
  have S1 := Lib.hid h1; clear h1
  obtain ⟨rc1, rf1⟩ := S1.out.rules
  go_wp2_with fail
  clear rc1 rf1
  refine (laid_any HD.out (by omega) (S1.out.ext R1'.out) (by decide) (by decide)).mono ?_
  rintro e w2 ⟨Nd, bd, od, ccd, hNd, rfl, pd, hqd, hs⟩
  have HNd := Lib.hid hNd; have HQd := Lib.hid hqd; clear hNd hqd
  have h2 := S1.out.call hs; clear hs S1
  try simp only [List.nil_append, List.cons_append, List.append_eq, List.append_nil, Int.toNat_natCast] at h2
  rw [show (7 : Int).toNat = 7 from rfl] at h2
  have S2 := Lib.hid h2; clear h2
  obtain ⟨rc2, rf2⟩ := S2.out.rules
  clear rc2 rf2
  have hNs : os + n ≤ Ns := by have := HNs.out; omega
  have hNd : od + n1 ≤ Nd := by have := HNd.out; omega
  have hNs3 : Ns ≤ 281474976710656 := by have := HNs.out; omega
  have hNd3 : Nd ≤ 281474976710656 := by have := HNd.out; omega
  have raS : rm ah + n ≤ Ns := by have := HNs.out; omega
  have raD : rm bh + n1 ≤ Nd := by have := HNd.out; omega
  have AS := Lib.hid (around_wr (around_mk (rm ah) n Ns 100) HL.out HQs.out raS ps)
  have AD := Lib.hid (around_wr (around_mk (rm bh) n1 Nd 7) HD.out HQd.out raD pd)
  have RS := Lib.hid (S2.out.rdWr mem1 (by rw [mkL_length, HL.out]; exact hNs))
  have RD := Lib.hid (S2.out.rdWr mem0 (by rw [mkL_length, HD.out]; exact hNd))
  have RSA := Lib.hid (S2.out.rd mem1)
  have RDA := Lib.hid (S2.out.rd mem0)
  have Q1 := Lib.hid (S2.out.ext R1'.out); have Q2 := Lib.hid (S2.out.ext R2'.out); have Q3 := Lib.hid (S2.out.extV R3'.out)
  have SC := S2
  replace oc0 := keep_cell SC.out oc0; replace oc2 := keep_cell SC.out oc2; replace oc3 := keep_cell SC.out oc3; replace oc4 := keep_cell SC.out oc4; replace oc7 := keep_cell SC.out oc7; replace oc8 := keep_cell SC.out oc8
  have hob' : ob < w2.heap.size := cell_lt oc0
  clear S2 hob hNs hNd
  have S50 := Lib.hid (St.start w2)
  obtain ⟨rc50, rf50⟩ := S50.out.rules
  go_wp2_with (first
    | ((with_reducible refine at_slot (N := 68) rfl ?_); refine ev rfl (bslice_run _ 23 0 _ (row .u16 []) rfl (fun _ => by kernel_rfl)) ?_; have h51 := S50.out.skip (t := 23) (c := row .u16 []); (try simp only [World.size_alloc, List.nil_append, List.cons_append, List.append_eq] at h51); have S51 := Lib.hid h51; clear h51 S50)
    | ((with_reducible refine at_slot (N := 71) rfl ?_); refine append_v (enc := e16) (G := []) (N := []) rfl _ _ 36 rfl 0 2 Try.underlying36 info_u16 rfl (fun _ => rfl) (.slice (some ⟨w2.heap.size, 0, none⟩) 0 0) [] rfl S51.out (Grow.none _ _ _ _) A3 n3 c3 vs rfl HV.out (S51.out.extV Q3.out) (by rw [HV.out]; show (0 + n3) * 2 ≤ _; omega) (by rw [HV.out]; show 0 + n3 ≤ _; unfold maxLen; omega) ?_; intro vv w52 G2 h52 hg2 _; rw [List.append_nil] at h52; rw [List.nil_append] at hg2; obtain ⟨A4, c4, rfl⟩ := hg2.shape; rw [HV.out] at hg2 ⊢; have HG2 := Lib.hid hg2; clear hg2; (try simp only [World.size_alloc, List.nil_append, List.cons_append, List.append_eq] at h52); have S52 := Lib.hid h52; clear h52 S51))
  have BC : Hid (∀ wx A cx, RdV e16 wx A vs → Calls Try.prog 25 #[.slice A n3 cx] wx fun e w' => ∃ A' c' G, GrowB (.slice A' m c') (Pq.bs vs) G ∧ e = .returned (.slice A' m c') ∧ St wx w' [] G) := Lib.hid (fun wx A cx hr => (Bytes_st HV.out (by omega) hr H16.out).mono fun e w' ⟨v, G, he, hg, hs⟩ => by
    obtain ⟨A', c', rfl⟩ := hg.shape
    rw [HBL.out] at he hg
    exact ⟨A', c', G, hg, he, hs⟩)
  have RC : Hid (∀ wx A cx, RdV e16 wx A vs → Calls Try.prog 54 #[.slice A n3 cx] wx fun e w' => ∃ A' c' G, GrowB (.slice A' m c') (Pq.bs vs) G ∧ e = .returned (.slice A' m c') ∧ St wx w' [] G) := Lib.hid (fun wx A cx hr => (rbytes_st HV.out (by omega) hr H16.out).mono fun e w' ⟨v, G, he, hg, hs⟩ => by
    obtain ⟨A', c', rfl⟩ := hg.shape
    rw [HBL.out] at he hg
    exact ⟨A', c', G, hg, he, hs⟩)
  have HC : Hid (∀ w' N, St w2 w' [] N → w'.cell? ⟨ob, 4, none⟩ = some (.slice A3 n3 c3)) := Lib.hid (fun w' N hs => keep_cell hs oc4)
  clear rc50 rf50
  have oc4' : w52.cell? ⟨ob, 4, none⟩ = some (.slice A3 n3 c3) := HC.out _ _ S52.out
  go_wp2_with fail
  have S53 := Lib.hid S52.out.drew; clear S52
  go_region_held3 (fun w' => w'.cell? ⟨ob, 4, none⟩ = some (.slice A3 n3 c3)) (first | go_keep | exact HC.out _ _ S53.out | exact HC.out _ _ S54.out | exact HC.out _ _ S55.out | exact HC.out _ _ S56.out | exact HC.out _ _ S57.out | exact HC.out _ _ S58.out) (first
    | (go_at_call 25; refine (BC.out _ _ _ (HG2.out.read S53.out (fun e he => he))).mono ?_; rintro e w54 ⟨A5, c5, G5, hg5, rfl, hh⟩; have h54 := S53.out.call hh; clear hh S53; (try simp only [List.nil_append, List.cons_append, List.append_eq, Int.toNat_natCast] at h54); have HG5 := Lib.hid hg5; clear hg5; have S54 := Lib.hid h54; clear h54)
    | (go_at_call 54; refine (RC.out _ _ _ (S54.out.extV Q3.out)).mono ?_; rintro e w55 ⟨A6, c6, G6, hg6, rfl, hh⟩; have h55 := S54.out.call hh; clear hh S54; (try simp only [List.nil_append, List.cons_append, List.append_eq, Int.toNat_natCast] at h55); have HG6 := Lib.hid hg6; clear hg6; have S55 := Lib.hid h55; clear h55)
    | (go_at_call 15; refine (equal_st HBL.out (by omega) (HG5.out.read S55.out (fun e he => by simp [he])) (HG6.out.read S55.out (fun e he => by simp [he]))).mono ?_; rintro e w56 ⟨rfl, hh⟩; have h56 := S55.out.call hh; clear hh S55; (try simp only [List.nil_append, List.cons_append, List.append_eq, Int.toNat_natCast] at h56); have S56 := Lib.hid h56; clear h56)
    | (go_at_call 26; refine (alike_st HV.out (by omega) (HG2.out.read S56.out (fun e he => by simp [he])) (S56.out.extV Q3.out)).mono ?_; rintro e w57 ⟨rfl, hh⟩; have h57 := S56.out.call hh; clear hh S56; (try simp only [List.nil_append, List.cons_append, List.append_eq, Int.toNat_natCast] at h57); have S57 := Lib.hid h57; clear h57))
  obtain ⟨rc57, rf57⟩ := S57.out.rules
  go_wp2_with fail
  clear rc57 rf57
  refine (equal_st HL.out (by omega) (S57.out.ext RS.out) (S57.out.ext Q2.out)).mono ?_
  rintro e w58 ⟨rfl, hh⟩
  have h58 := S57.out.call hh; clear hh S57
  try simp only [List.nil_append, List.cons_append, List.append_eq, Int.toNat_natCast] at h58
  have S58 := Lib.hid h58; clear h58
  obtain ⟨rc58, rf58⟩ := S58.out.rules
  go_wp2_with fail
  clear rc58 rf58
  refine (equal_st HD.out (by omega) (S58.out.ext RD.out) (S58.out.ext Q1.out)).mono ?_
  rintro e w59 ⟨rfl, hh⟩
  have h59 := S58.out.call hh; clear hh S58
  try simp only [List.nil_append, List.cons_append, List.append_eq, Int.toNat_natCast] at h59
  have S59 := Lib.hid h59; clear h59
  obtain ⟨rc59, rf59⟩ := S59.out.rules
  go_wp2_with fail
  have QA : Hid (∀ m cp : Nat, Calls Try.prog 51 #[.slice (some ⟨bs, 0, none⟩) Ns cp, .int .i64 ((rm ah : Nat) : Int), .int .i64 (n : Int), .int .u8 100] (w59.drewN m) (fun e w' => e = .returned (.bool true) ∧ w' = w59.drewN m)) := Lib.hid (fun m cp => (around_any (mark := 100) (by decide) AS.out (S59.out.drewN.ext RSA.out) hNs3 (by omega) (by omega)).mono fun _ _ h => ⟨h.1, h.2.symm⟩)
  have QB : Hid (∀ m cp : Nat, Calls Try.prog 51 #[.slice (some ⟨bd, 0, none⟩) Nd cp, .int .i64 ((rm bh : Nat) : Int), .int .i64 (n1 : Int), .int .u8 7] (w59.drewN m) (fun e w' => e = .returned (.bool true) ∧ w' = w59.drewN m)) := Lib.hid (fun m cp => (around_any (mark := 7) (by decide) AD.out (S59.out.drewN.ext RDA.out) hNd3 (by omega) (by omega)).mono fun _ _ h => ⟨h.1, h.2.symm⟩)
  go_quiet ((first | (go_at_call 52; exact Calls.quiet_of_same ((room_st _ _).mono fun _ _ h => ⟨h.1, h.2.symm⟩)) | (go_at_call 51; with_reducible exact Calls.quiet_of_same (QA.out _ _)) | (go_at_call 51; with_reducible exact Calls.quiet_of_same (QB.out _ _))))
  go_wp2_with fail
  go_ret
  exact ⟨rfl, (SB.out.call (SC.out.call S59.out.drewN)).nil⟩

end Go.Proofs.Ytadgjmlkpnifoaa.Pq
