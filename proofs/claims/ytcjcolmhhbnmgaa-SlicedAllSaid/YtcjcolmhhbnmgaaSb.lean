/- Layer 7: the laws' 'blocks': one Planes or Block. -/
import Derived.Test.YtcjcolmhhbnmgaaSz
namespace Go.Proofs.Ytcjcolmhhbnmgaa.Sl
set_option linter.unusedSimpArgs false
set_option linter.unusedVariables false
open Go Go.RowKit Go.Proofs.Ytcjcolmhhbnmgaa Go.Proofs.Ytcjcolmhhbnmgaa.Mm Go.Proofs.Ytcjcolmhhbnmgaa.Gf Go.Proofs.Ytcjcolmhhbnmgaa.Wr Go.Proofs.Ytcjcolmhhbnmgaa.St Go.Proofs.Ytcjcolmhhbnmgaa.Wd

/-- The head of a list that is there whole. -/
theorem _root_.Go.Proofs.Ytcjcolmhhbnmgaa.St.St.ext2 {w0 w : World} {W N : List Ent} {b n : Nat} {t : TypeId} {D ws k : List Nat} (h : St w0 w W N) (m : (⟨b, t, cellsV e64 D⟩ : Ent) ∈ N) (e : D.take (n + 8) = ws ++ k) (hl : ws.length = n) : RdV e64 w (some ⟨b, 0, none⟩) ws := by
  have hr := (h.rdV m).piece 0 n
  rw [List.drop_zero] at hr
  have e2 : D.take n = ws := by
    have := congrArg (List.take n) e
    rw [List.take_take, Nat.min_eq_left (by omega), List.take_left' hl] at this
    exact this
  rw [e2] at hr
  exact hr

set_option maxRecDepth 100000 in
set_option maxHeartbeats 4000000 in
theorem bl_planes (c : Int) (v1 : Value) (A2 : Option Addr) (n c2 : Nat) (l : List Nat) (W : Int) (v3 : Value) (sf : Bool) (w : World) (hl : l.length = n) (hn : n ≤ 140737488351232) (h2 : Rd w A2 l) (h82 : B8 l) :
    Calls Try.prog 46 #[.agg #[.int .i64 5, .int .u8 c, v1, .slice A2 n c2, .int .u64 W, v3, .bool sf]] w fun e w' => e = .returned (.bool true) ∧ St w w' [] [] := by
  have HL := Lib.hid hl; have R2 := Lib.hid h2; have H82 := Lib.hid h82
  clear hl h2 h82
  have hn3 : n ≤ 281474976710656 := by omega
  have SA := Lib.hid (St.start w)
  by_cases hne : n = 64
  · obtain rfl : n = 64 := hne
    go_enter Try.func46, Try.ntmps46
    go_wp2_with ((with_reducible refine at_slot (N := 1) rfl ?_); refine box_law rfl 72 _ _ rfl rfl SA.out ?_; intro ob w0 hs; have SB := Lib.hid hs; clear hs SA; have oc0 := (SB.out.blk mem0).cell (i := 0) rfl; have oc3 := (SB.out.blk mem0).cell (i := 3) rfl; have hob := (SB.out.blk mem0).lt; have S0 := Lib.hid (St.start w0))
    have R2' := Lib.hid (SB.out.ext R2.out)
    obtain ⟨rc0, rf0⟩ := S0.out.rules
    go_wp2_with fail
    clear rc0 rf0
    refine (roomy_st HL.out hn (S0.out.ext R2'.out) H82.out).mono ?_
    rintro e w1 ⟨bs, Ds, rfl, hEs, hPs, hs8, hsm, hh⟩
    have h1 := S0.out.call hh; clear hh S0
    try simp only [List.nil_append, List.cons_append, List.append_eq, Int.toNat_natCast] at h1
    have HEs := Lib.hid hEs; have HPs := Lib.hid hPs; have HS8 := Lib.hid hs8; clear hEs hPs hs8
    have S1 := Lib.hid h1; clear h1
    obtain ⟨rc1, rf1⟩ := S1.out.rules
    go_wp2_with fail
    clear rc1 rf1
    refine (Planes_st HL.out (piece_rd S1.out mem0 HPs.out) H82.out).mono ?_
    rintro e w2 ⟨b2, rfl, hh⟩
    have h2 := S1.out.call hh; clear hh S1
    try simp only [List.nil_append, List.cons_append, List.append_eq, Int.toNat_natCast] at h2
    have S2 := Lib.hid h2; clear h2
    obtain ⟨rc2, rf2⟩ := S2.out.rules
    go_wp2_with fail
    clear rc2 rf2
    refine (rPlanes_st HL.out (S2.out.ext R2'.out) H82.out).mono ?_
    rintro e w3 ⟨b3, rfl, hh⟩
    have h3 := S2.out.call hh; clear hh S2
    try simp only [List.nil_append, List.cons_append, List.append_eq, Int.toNat_natCast] at h3
    have S3 := Lib.hid h3; clear h3
    obtain ⟨rc3, rf3⟩ := S3.out.rules
    go_wp2_with fail
    clear rc3 rf3
    refine (samew_st (pls_length l) (by decide) (S3.out.rdV mem1) (S3.out.rdV mem0)).mono ?_
    rintro e w4 ⟨rfl, hh⟩
    have h4 := S3.out.call hh; clear hh S3
    try simp only [List.nil_append, List.cons_append, List.append_eq, Int.toNat_natCast] at h4
    have S4 := Lib.hid h4; clear h4
    obtain ⟨rc4, rf4⟩ := S4.out.rules
    go_wp2_with fail
    clear rc4 rf4
    refine (same_st HL.out hn3 (piece_rd S4.out mem2 HPs.out) (S4.out.ext R2'.out)).mono ?_
    rintro e w5 ⟨rfl, hh⟩
    have h5 := S4.out.call hh; clear hh S4
    try simp only [List.nil_append, List.cons_append, List.append_eq, Int.toNat_natCast] at h5
    have S5 := Lib.hid h5; clear h5
    obtain ⟨rc5, rf5⟩ := S5.out.rules
    go_wp2_with fail
    refine (edges_st (S5.out.blk mem2) HEs.out hn).mono ?_
    rintro e _ ⟨rfl, rfl⟩
    go_wp2_with fail
    go_ret
    exact ⟨rfl, (SB.out.call S5.out).nil⟩
  · have HNE := Lib.hid hne
    clear hne
    go_enter Try.func46, Try.ntmps46
    go_wp2_with ((with_reducible refine at_slot (N := 1) rfl ?_); refine box_law rfl 72 _ _ rfl rfl SA.out ?_; intro ob w0 hs; have SB := Lib.hid hs; clear hs SA; have oc0 := (SB.out.blk mem0).cell (i := 0) rfl; have oc3 := (SB.out.blk mem0).cell (i := 3) rfl; have hob := (SB.out.blk mem0).lt; have S0 := Lib.hid (St.start w0))
    have R2' := Lib.hid (SB.out.ext R2.out)
    obtain ⟨rc0, rf0⟩ := S0.out.rules
    go_wp2_with fail
    clear rc0 rf0
    refine (roomy_st HL.out hn (S0.out.ext R2'.out) H82.out).mono ?_
    rintro e w1 ⟨bs, Ds, rfl, hEs, hPs, hs8, hsm, hh⟩
    have h1 := S0.out.call hh; clear hh S0
    try simp only [List.nil_append, List.cons_append, List.append_eq, Int.toNat_natCast] at h1
    have HEs := Lib.hid hEs; have HPs := Lib.hid hPs; have HS8 := Lib.hid hs8; clear hEs hPs hs8
    have S1 := Lib.hid h1; clear h1
    obtain ⟨rc1, rf1⟩ := S1.out.rules
    go_wp2_with fail
    refine (planes_ne _ _ _ _ HNE.out).mono ?_
    rintro e _ ⟨rfl, rfl⟩
    go_wp2_with fail
    refine (rplanes_ne _ _ _ _ HNE.out).mono ?_
    rintro e _ ⟨rfl, rfl⟩
    go_wp2_with fail
    clear rc1 rf1
    refine (samew_st (l := []) rfl (by decide) RdV.nil RdV.nil).mono ?_
    rintro e w2 ⟨rfl, hh⟩
    have h2 := S1.out.call hh; clear hh S1
    try simp only [List.nil_append, List.cons_append, List.append_eq, Int.toNat_natCast] at h2
    have S2 := Lib.hid h2; clear h2
    obtain ⟨rc2, rf2⟩ := S2.out.rules
    go_wp2_with fail
    clear rc2 rf2
    refine (same_st HL.out hn3 (piece_rd S2.out mem0 HPs.out) (S2.out.ext R2'.out)).mono ?_
    rintro e w3 ⟨rfl, hh⟩
    have h3 := S2.out.call hh; clear hh S2
    try simp only [List.nil_append, List.cons_append, List.append_eq, Int.toNat_natCast] at h3
    have S3 := Lib.hid h3; clear h3
    obtain ⟨rc3, rf3⟩ := S3.out.rules
    go_wp2_with fail
    refine (edges_st (S3.out.blk mem0) HEs.out hn).mono ?_
    rintro e _ ⟨rfl, rfl⟩
    go_wp2_with fail
    go_ret
    exact ⟨rfl, (SB.out.call S3.out).nil⟩

set_option maxRecDepth 100000 in
set_option maxHeartbeats 4000000 in
theorem bl_block (kind c : Int) (v1 v2 : Value) (W : Int) (A3 : Option Addr) (n c3 : Nat) (ws : List Nat) (sf : Bool) (w : World) (hk : kind ≠ 5) (hl : ws.length = n) (hn : n * 8 ≤ 140737488351232) (h3 : RdV e64 w A3 ws) (h64 : W64 ws) :
    Calls Try.prog 46 #[.agg #[.int .i64 kind, .int .u8 c, v1, v2, .int .u64 W, .slice A3 n c3, .bool sf]] w fun e w' => e = .returned (.bool true) ∧ St w w' [] [] := by
  have HL := Lib.hid hl; have R3 := Lib.hid h3; have H64 := Lib.hid h64
  have hk5 : (kind == 5) = false := beq_eq_false_iff_ne.2 hk
  clear hl h3 h64 hk
  have SA := Lib.hid (St.start w)
  by_cases hne : n = 8
  · have HNE := Lib.hid hne
    clear hne
    go_enter Try.func46, Try.ntmps46
    go_wp2_with (first
      | ((with_reducible refine at_slot (N := 1) rfl ?_); refine box_law rfl 72 _ _ rfl rfl SA.out ?_; intro ob w0 hs; have SB := Lib.hid hs; clear hs SA; have oc0 := (SB.out.blk mem0).cell (i := 0) rfl; have oc5 := (SB.out.blk mem0).cell (i := 5) rfl; have hob := (SB.out.blk mem0).lt; have S0 := Lib.hid (St.start w0); have R3' := Lib.hid (SB.out.extV R3.out))
      | ((with_reducible refine at_slot (N := 56) rfl ?_); refine ev rfl (bslice_run _ 30 0 _ (row .u64 []) rfl (fun _ => by kernel_rfl)) ?_; have h1 := S0.out.skip (t := 30) (c := row .u64 []); (try simp only [World.size_alloc, List.nil_append, List.cons_append, List.append_eq] at h1); have S1 := Lib.hid h1; clear h1 S0)
      | ((with_reducible refine at_slot (N := 59) rfl ?_); refine append_v (enc := e64) (G := []) (N := []) rfl _ _ 43 rfl 0 8 Try.underlying43 info_u64 rfl (fun _ => rfl) (.slice (some ⟨w0.heap.size, 0, none⟩) 0 0) [] rfl S1.out (Grow.none _ _ _ _) A3 n c3 ws rfl HL.out (S1.out.extV R3'.out) (by rw [HL.out]; show (0 + n) * 8 ≤ _; omega) (by rw [HL.out]; show 0 + n ≤ _; unfold maxLen; omega) ?_; intro vv w2 G2 h2 hg2 _; have HG2 := Lib.hid hg2; clear hg2; rw [List.append_nil] at h2; rw [List.nil_append] at HG2; (try simp only [World.size_alloc, List.nil_append, List.cons_append, List.append_eq] at h2); have S2 := Lib.hid h2; clear h2 S1)
      | ((with_reducible refine at_slot (N := 60) rfl ?_); refine ev rfl (bslice_run _ 30 8 _ (row .u64 [71, 72, 73, 74, 75, 76, 77, 78]) rfl (fun _ => by kernel_rfl)) ?_; have h3 := S2.out.alloc 30 (row .u64 [71, 72, 73, 74, 75, 76, 77, 78]); (try simp only [World.size_alloc, List.nil_append, List.cons_append, List.append_eq] at h3); have S3 := Lib.hid h3; clear h3 S2)
      | ((with_reducible refine at_slot (N := 61) rfl ?_); refine append_v (enc := e64) (G := G2) (N := []) rfl _ _ 43 rfl 0 8 Try.underlying43 info_u64 rfl (fun _ => rfl) vv ws rfl (St.nilr (S3.out.drop (.cons _ (List.Sublist.refl _)))) HG2.out _ 8 8 [71, 72, 73, 74, 75, 76, 77, 78] rfl rfl (S3.out.rdV mem0) (by rw [HL.out]; show (n + 8) * 8 ≤ _; omega) (by rw [HL.out]; show n + 8 ≤ _; unfold maxLen; omega) ?_; intro vw w4 G4 h4 hg4 _; have HG4 := Lib.hid hg4; clear hg4 HG2; rw [List.append_nil] at h4; obtain ⟨bw, D, evw, hle, hmx, htk, eG⟩ := HG4.out.full e64_inj (by simp); subst evw eG; have hlen : (ws ++ [71, 72, 73, 74, 75, 76, 77, 78]).length = n + 8 := (by rw [List.length_append, HL.out]; rfl); rw [hlen] at hle htk; rw [hlen]; have HTK := Lib.hid htk; clear htk hlen HG4; obtain ⟨rc4, rf4⟩ := St.rules h4; have hnD : n ≤ D.length := (by omega); (try simp only [World.size_alloc, List.nil_append, List.cons_append, List.append_eq] at h4); have S4 := Lib.hid h4; clear h4 S3))
    have RW : Hid (RdV e64 w4 (some ⟨bw, 0, none⟩) ws) := Lib.hid (by
      have h := (S4.out.rdV mem0).piece 0 n
      rw [List.drop_zero] at h
      have e : D.take n = ws := by
        have := congrArg (List.take n) HTK.out
        rw [List.take_take, Nat.min_eq_left (by omega), List.take_left' HL.out] at this
        exact this
      rw [e] at h
      exact h)
    have MK : Hid (∀ i, i < 8 → (cellsV e64 D)[n + i]? = some (.int .u64 ((71 + i : Nat) : Int))) := Lib.hid (fun i hi => by
      have h : (D.take (n + 8))[n + i]? = some (71 + i) := by
        rw [HTK.out, List.getElem?_append_right (by rw [HL.out]; omega), HL.out, Nat.add_sub_cancel_left]
        have : i = 0 ∨ i = 1 ∨ i = 2 ∨ i = 3 ∨ i = 4 ∨ i = 5 ∨ i = 6 ∨ i = 7 := by omega
        rcases this with rfl | rfl | rfl | rfl | rfl | rfl | rfl | rfl <;> rfl
      rw [List.getElem?_take, if_pos (by omega)] at h
      exact cellsV_get h)
    have h8 := HNE.out
    subst h8
    go_wp2_with fail
    refine (Block_st HL.out RW.out H64.out).mono ?_
    rintro e w5 ⟨b5, rfl, hh⟩
    have h5 := S4.out.call hh; clear hh S4
    try simp only [List.nil_append, List.cons_append, List.append_eq, Int.toNat_natCast] at h5
    have S5 := Lib.hid h5; clear h5
    obtain ⟨rc5, rf5⟩ := S5.out.rules
    go_wp2_with fail
    refine (rBlock_st HL.out (S5.out.extV R3'.out) H64.out).mono ?_
    rintro e w6 ⟨b6, rfl, hh⟩
    have h6 := S5.out.call hh; clear hh S5
    try simp only [List.nil_append, List.cons_append, List.append_eq, Int.toNat_natCast] at h6
    have S6 := Lib.hid h6; clear h6
    clear rc4 rf4 rc5 rf5
    obtain ⟨rc6, rf6⟩ := S6.out.rules
    have HS := S6
    clear S6
    go_wp2_with fail
    go_loopw [15] (fun vi wr => ∃ i : Nat, i ≤ 8 ∧ vi = .int .i64 i ∧ St w0 wr [] [bt b6 (blk64 ws), bt b5 (blk64 ws), ⟨bw, 30, cellsV e64 D⟩]) (fun vi _ => 8 - (intOf vi).toNat)
    case atStart => exact ⟨0, by omega, rfl, HS.out⟩
    case round =>
      clear HS
      obtain ⟨i, hi, rfl, hs⟩ := hrel
      have S9 := Lib.hid hs; clear hs
      by_cases hlt : i < 8
      · have m1 := (S9.out.blk mem2).cell (MK.out i hlt)
        have i1 : (8 : Int) + (i : Int) < 16 := by omega
        have i2 : 8 + i < 16 := by omega
        have i3 : ((8 : Int) + (i : Int)).toNat = 8 + i := by omega
        have i4 : (0 : Int) ≤ (8 : Int) + (i : Int) := by omega
        have e1 : IntKind.u64.wrap (71 + (i : Int)) = ((71 + i : Nat) : Int) := by rw [show (71 : Int) + (i : Int) = ((71 + i : Nat) : Int) from by simp]; exact Bt.wrap_u64 _ (by omega) (by omega)
        obtain ⟨z, HZ⟩ : ∃ z, Hid (71 + i = z) := ⟨_, Lib.hid rfl⟩
        rw [HZ.out] at m1 e1
        go_wp2_with fail
        refine ⟨⟨i + 1, by omega, by simp, S9.out⟩, ?_⟩
        simp [intOf]; omega
      · obtain ⟨rc9, rf9⟩ := S9.out.rules
        go_wp2_with fail
        refine (same_st (blk64_length ws) (by decide) (S9.out.rd mem1) (S9.out.rd mem0)).mono ?_
        rintro e w10 ⟨rfl, hh⟩
        have h10 := S9.out.call hh; clear hh S9
        try simp only [List.nil_append, List.cons_append, List.append_eq, Int.toNat_natCast] at h10
        have S10 := Lib.hid h10; clear h10
        obtain ⟨rc10, rf10⟩ := S10.out.rules
        clear rc9 rf9
        go_wp2_with fail
        refine (samew_st HL.out (by decide) (S10.out.ext2 mem2 HTK.out HL.out) (S10.out.extV R3'.out)).mono ?_
        rintro e w11 ⟨rfl, hh⟩
        have h11 := S10.out.call hh; clear hh S10
        try simp only [List.nil_append, List.cons_append, List.append_eq, Int.toNat_natCast] at h11
        have S11 := Lib.hid h11; clear h11
        go_wp2_with fail
        go_ret
        exact ⟨rfl, (SB.out.call S11.out).nil⟩
  · have HNE := Lib.hid hne
    clear hne
    go_enter Try.func46, Try.ntmps46
    go_wp2_with (first
      | ((with_reducible refine at_slot (N := 1) rfl ?_); refine box_law rfl 72 _ _ rfl rfl SA.out ?_; intro ob w0 hs; have SB := Lib.hid hs; clear hs SA; have oc0 := (SB.out.blk mem0).cell (i := 0) rfl; have oc5 := (SB.out.blk mem0).cell (i := 5) rfl; have hob := (SB.out.blk mem0).lt; have S0 := Lib.hid (St.start w0); have R3' := Lib.hid (SB.out.extV R3.out))
      | ((with_reducible refine at_slot (N := 56) rfl ?_); refine ev rfl (bslice_run _ 30 0 _ (row .u64 []) rfl (fun _ => by kernel_rfl)) ?_; have h1 := S0.out.skip (t := 30) (c := row .u64 []); (try simp only [World.size_alloc, List.nil_append, List.cons_append, List.append_eq] at h1); have S1 := Lib.hid h1; clear h1 S0)
      | ((with_reducible refine at_slot (N := 59) rfl ?_); refine append_v (enc := e64) (G := []) (N := []) rfl _ _ 43 rfl 0 8 Try.underlying43 info_u64 rfl (fun _ => rfl) (.slice (some ⟨w0.heap.size, 0, none⟩) 0 0) [] rfl S1.out (Grow.none _ _ _ _) A3 n c3 ws rfl HL.out (S1.out.extV R3'.out) (by rw [HL.out]; show (0 + n) * 8 ≤ _; omega) (by rw [HL.out]; show 0 + n ≤ _; unfold maxLen; omega) ?_; intro vv w2 G2 h2 hg2 _; have HG2 := Lib.hid hg2; clear hg2; rw [List.append_nil] at h2; rw [List.nil_append] at HG2; (try simp only [World.size_alloc, List.nil_append, List.cons_append, List.append_eq] at h2); have S2 := Lib.hid h2; clear h2 S1)
      | ((with_reducible refine at_slot (N := 60) rfl ?_); refine ev rfl (bslice_run _ 30 8 _ (row .u64 [71, 72, 73, 74, 75, 76, 77, 78]) rfl (fun _ => by kernel_rfl)) ?_; have h3 := S2.out.alloc 30 (row .u64 [71, 72, 73, 74, 75, 76, 77, 78]); (try simp only [World.size_alloc, List.nil_append, List.cons_append, List.append_eq] at h3); have S3 := Lib.hid h3; clear h3 S2)
      | ((with_reducible refine at_slot (N := 61) rfl ?_); refine append_v (enc := e64) (G := G2) (N := []) rfl _ _ 43 rfl 0 8 Try.underlying43 info_u64 rfl (fun _ => rfl) vv ws rfl (St.nilr (S3.out.drop (.cons _ (List.Sublist.refl _)))) HG2.out _ 8 8 [71, 72, 73, 74, 75, 76, 77, 78] rfl rfl (S3.out.rdV mem0) (by rw [HL.out]; show (n + 8) * 8 ≤ _; omega) (by rw [HL.out]; show n + 8 ≤ _; unfold maxLen; omega) ?_; intro vw w4 G4 h4 hg4 _; have HG4 := Lib.hid hg4; clear hg4 HG2; rw [List.append_nil] at h4; obtain ⟨bw, D, evw, hle, hmx, htk, eG⟩ := HG4.out.full e64_inj (by simp); subst evw eG; have hlen : (ws ++ [71, 72, 73, 74, 75, 76, 77, 78]).length = n + 8 := (by rw [List.length_append, HL.out]; rfl); rw [hlen] at hle htk; rw [hlen]; have HTK := Lib.hid htk; clear htk hlen HG4; obtain ⟨rc4, rf4⟩ := St.rules h4; have hnD : n ≤ D.length := (by omega); (try simp only [World.size_alloc, List.nil_append, List.cons_append, List.append_eq] at h4); have S4 := Lib.hid h4; clear h4 S3))
    have RW : Hid (RdV e64 w4 (some ⟨bw, 0, none⟩) ws) := Lib.hid (by
      have h := (S4.out.rdV mem0).piece 0 n
      rw [List.drop_zero] at h
      have e : D.take n = ws := by
        have := congrArg (List.take n) HTK.out
        rw [List.take_take, Nat.min_eq_left (by omega), List.take_left' HL.out] at this
        exact this
      rw [e] at h
      exact h)
    have MK : Hid (∀ i, i < 8 → (cellsV e64 D)[n + i]? = some (.int .u64 ((71 + i : Nat) : Int))) := Lib.hid (fun i hi => by
      have h : (D.take (n + 8))[n + i]? = some (71 + i) := by
        rw [HTK.out, List.getElem?_append_right (by rw [HL.out]; omega), HL.out, Nat.add_sub_cancel_left]
        have : i = 0 ∨ i = 1 ∨ i = 2 ∨ i = 3 ∨ i = 4 ∨ i = 5 ∨ i = 6 ∨ i = 7 := by omega
        rcases this with rfl | rfl | rfl | rfl | rfl | rfl | rfl | rfl <;> rfl
      rw [List.getElem?_take, if_pos (by omega)] at h
      exact cellsV_get h)
    go_wp2_with fail
    refine (block_ne _ _ _ _ HNE.out).mono ?_
    rintro e _ ⟨rfl, rfl⟩
    go_wp2_with fail
    refine (rblock_ne _ _ _ _ HNE.out).mono ?_
    rintro e _ ⟨rfl, rfl⟩
    have HS := S4
    clear S4
    go_wp2_with fail
    go_loopw [15] (fun vi wr => ∃ i : Nat, i ≤ 8 ∧ vi = .int .i64 i ∧ St w0 wr [] [⟨bw, 30, cellsV e64 D⟩]) (fun vi _ => 8 - (intOf vi).toNat)
    case atStart => exact ⟨0, by omega, rfl, HS.out⟩
    case round =>
      clear HS
      obtain ⟨i, hi, rfl, hs⟩ := hrel
      have S9 := Lib.hid hs; clear hs
      by_cases hlt : i < 8
      · have m1 := (S9.out.blk mem0).cell (MK.out i hlt)
        have i1 : (n : Int) + (i : Int) < ((n + 8 : Nat) : Int) := by omega
        have i2 : n + i < n + 8 := by omega
        have i3 : ((n : Int) + (i : Int)).toNat = n + i := by omega
        have i4 : (0 : Int) ≤ (n : Int) + (i : Int) := by omega
        have e1 : IntKind.u64.wrap (71 + (i : Int)) = ((71 + i : Nat) : Int) := by rw [show (71 : Int) + (i : Int) = ((71 + i : Nat) : Int) from by simp]; exact Bt.wrap_u64 _ (by omega) (by omega)
        obtain ⟨z, HZ⟩ : ∃ z, Hid (71 + i = z) := ⟨_, Lib.hid rfl⟩
        rw [HZ.out] at m1 e1
        go_wp2_with fail
        refine ⟨⟨i + 1, by omega, by simp, S9.out⟩, ?_⟩
        simp [intOf]; omega
      · obtain ⟨rc9, rf9⟩ := S9.out.rules
        go_wp2_with fail
        refine (same_st (l := []) rfl (by decide) (Rd.nil _ _) (Rd.nil _ _)).mono ?_
        rintro e w10 ⟨rfl, hh⟩
        have h10 := S9.out.call hh; clear hh S9
        try simp only [List.nil_append, List.cons_append, List.append_eq, Int.toNat_natCast] at h10
        have S10 := Lib.hid h10; clear h10
        obtain ⟨rc10, rf10⟩ := S10.out.rules
        clear rc9 rf9
        go_wp2_with fail
        refine (samew_st HL.out (by omega) (S10.out.ext2 mem0 HTK.out HL.out) (S10.out.extV R3'.out)).mono ?_
        rintro e w11 ⟨rfl, hh⟩
        have h11 := S10.out.call hh; clear hh S10
        try simp only [List.nil_append, List.cons_append, List.append_eq, Int.toNat_natCast] at h11
        have S11 := Lib.hid h11; clear h11
        go_wp2_with fail
        go_ret
        exact ⟨rfl, (SB.out.call S11.out).nil⟩

end Go.Proofs.Ytcjcolmhhbnmgaa.Sl
