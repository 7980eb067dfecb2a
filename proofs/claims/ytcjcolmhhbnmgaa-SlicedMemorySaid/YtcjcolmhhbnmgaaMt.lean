/- The law SlicedMemory. -/
import Derived.Test.YtcjcolmhhbnmgaaMs
namespace Go.Proofs.Ytcjcolmhhbnmgaa.Sl
set_option linter.unusedSimpArgs false
set_option linter.unusedVariables false
open Go Go.RowKit Go.Proofs.Ytcjcolmhhbnmgaa Go.Proofs.Ytcjcolmhhbnmgaa.Mm Go.Proofs.Ytcjcolmhhbnmgaa.Gf Go.Proofs.Ytcjcolmhhbnmgaa.Wr Go.Proofs.Ytcjcolmhhbnmgaa.St Go.Proofs.Ytcjcolmhhbnmgaa.Wd

theorem own_row {ds : List Sd} {k b n cap : Nat} {D l : List Nat} (hd : ds[k]? = some ⟨some ⟨b, 0, none⟩, n, cap⟩) (hle : n ≤ D.length) (hcap : D.length = cap) (hm : cap ≤ maxLen) (ht : D.take n = l) (hn : l.length = n) (hb : l.length ≤ 1048576) : Own e8 5 ds (fun _ l => l.length ≤ 1048576) k [bt b D] := ⟨_, l, hd, hb, GrowV.of_blk hle hcap hm ht hn⟩
theorem own_row64 {ds : List Sd} {k b : Nat} {l : List Nat} (hd : ds[k]? = some ⟨some ⟨b, 0, none⟩, 8, 8⟩) (hn : l.length = 8) : Own e64 30 ds (fun _ l => l.length ≤ 1048576) k [⟨b, 30, row .u64 l⟩] := ⟨_, l, hd, by show l.length ≤ 1048576; rw [hn]; decide, GrowV.of_blk (by rw [hn]; exact Nat.le_refl _) hn (show 8 ≤ maxLen by decide) (List.take_of_length_le (by rw [hn]; exact Nat.le_refl _)) hn⟩

set_option maxRecDepth 100000 in
set_option maxHeartbeats 8000000 in
theorem memory_walk (c : Nat) (cs : Array Value) (l : List Nat) (w : World) (hc : c < 256) (h : (Ar.kArrB 64).ok w.heap.size w cs.toList l) :
    Calls Try.prog 7 #[.int .u8 (c : Int), .agg cs] w fun e w' => e = .returned (.bool true) ∧ Below w.heap.size w w' := by
  obtain ⟨rfl, hl, h8⟩ := Ar.arr_of h
  have HL := Lib.hid hl; have H8 := Lib.hid h8
  have EB := Lib.hid (blk_pls HL.out H8.out)
  clear h hl h8
  have S0 := Lib.hid (St.start w)
  go_enter Try.func7, Try.ntmps7
  go_wp2_with (first
    | ((with_reducible refine at_slot (N := 3) rfl ?_); refine box_law rfl _ _ _ rfl rfl S0.out ?_; intro xb w1 h1; (try simp only [World.size_alloc, List.nil_append, List.cons_append, List.append_eq] at h1); have S1 := Lib.hid h1; clear h1 S0)
    | ((with_reducible refine at_slot (N := 26) rfl ?_); refine ev rfl (bslice_run _ 5 0 _ (row .u8 []) rfl (fun _ => by kernel_rfl)) ?_; have h2 := S1.out.alloc 5 (row .u8 []); (try simp only [World.size_alloc, List.nil_append, List.cons_append, List.append_eq] at h2); have S2 := Lib.hid h2; clear h2 S1)
    | ((with_reducible refine at_slot (N := 28) rfl ?_); refine append_bytes (N := [⟨xb, _, row .u8 l⟩]) (G := [bt w1.heap.size []]) rfl _ _ rfl _ [] rfl S2.out (GrowB.mkBlk (Nat.le_refl _) rfl (by decide) (B8.of_all (by decide)) rfl rfl) (some ⟨xb, 0, none⟩) 64 64 l rfl HL.out (Rd.of_blk (S2.out.blk mem1)) H8.out (by rw [HL.out]; decide) ?_; intro v1 w3 G1 h3 hg' hz; rw [List.nil_append] at hg'; obtain ⟨g, Dg, rfl, hle, hmx, _, ht, rfl⟩ := hg'.some (fun h => by have := (hz h).1; simp at this); rw [HL.out] at hle ht ⊢; have HLE := Lib.hid hle; have HMX := Lib.hid hmx; obtain ⟨tl, htl⟩ : ∃ tl, Dg = l ++ tl := ⟨Dg.drop 64, by rw [← ht, List.take_append_drop]⟩; obtain ⟨cg, hcg⟩ : ∃ cg, Dg.length = cg := ⟨_, rfl⟩; rw [hcg] at HLE HMX ⊢; have HCG : Hid (64 + tl.length = cg) := Lib.hid (by rw [← hcg, htl, List.length_append, HL.out]); rw [htl] at h3; clear hg' hz hle ht htl hcg hmx; (try simp only [World.size_alloc, List.nil_append, List.cons_append, List.append_eq] at h3); have S3 := Lib.hid h3; clear h3 S2))
  refine (Planes_st HL.out (S3.out.rdHead HL.out mem0) H8.out).mono ?_
  rintro e w4 ⟨p1, rfl, hh⟩
  have h4 := S3.out.call hh; clear hh S3
  try simp only [List.nil_append, List.cons_append, List.append_eq, Int.toNat_natCast] at h4
  have S4 := Lib.hid h4; clear h4
  go_wp2_with fail
  refine (Planes_st HL.out (S4.out.rdHead HL.out mem1) H8.out).mono ?_
  rintro e w5 ⟨p2, rfl, hh⟩
  have h5 := S4.out.call hh; clear hh S4
  try simp only [List.nil_append, List.cons_append, List.append_eq, Int.toNat_natCast] at h5
  have S5 := Lib.hid h5; clear h5
  go_wp2_with fail
  refine (rPlanes_st HL.out (S5.out.rd (t := 42) (by simp)) H8.out).mono ?_
  rintro e w6 ⟨wt, rfl, hh⟩
  have h6 := S5.out.call hh; clear hh S5
  try simp only [List.nil_append, List.cons_append, List.append_eq, Int.toNat_natCast] at h6
  have S6 := Lib.hid h6; clear h6
  go_wp2_with fail
  refine (samew_st (pls_length l) (by decide) (S6.out.rdU mem2) (S6.out.rdU mem0)).mono ?_
  rintro e w7 ⟨rfl, hh⟩
  have h7 := S6.out.call hh; clear hh S6
  try simp only [List.nil_append, List.cons_append, List.append_eq, Int.toNat_natCast] at h7
  have S7 := Lib.hid h7; clear h7
  go_wp2_with fail
  refine (samew_st (pls_length l) (by decide) (S7.out.rdU mem1) (S7.out.rdU mem0)).mono ?_
  rintro e w8 ⟨rfl, hh⟩
  have h8 := S7.out.call hh; clear hh S7
  try simp only [List.nil_append, List.cons_append, List.append_eq, Int.toNat_natCast] at h8
  have S8 := Lib.hid h8; clear h8
  go_wp2_with fail
  refine (Block_st (ps := pls l) (pls_length l) (S8.out.rdU mem2) (pls_w64 l)).mono ?_
  rintro e w9 ⟨b1, rfl, hh⟩
  have h9 := S8.out.call hh; clear hh S8
  try simp only [List.nil_append, List.cons_append, List.append_eq, Int.toNat_natCast] at h9
  rw [EB.out] at h9
  have S9 := Lib.hid h9; clear h9
  go_wp2_with fail
  refine (Block_st (ps := pls l) (pls_length l) (S9.out.rdU mem3) (pls_w64 l)).mono ?_
  rintro e w10 ⟨b2, rfl, hh⟩
  have h10 := S9.out.call hh; clear hh S9
  try simp only [List.nil_append, List.cons_append, List.append_eq, Int.toNat_natCast] at h10
  rw [EB.out] at h10
  have S10 := Lib.hid h10; clear h10
  go_wp2_with fail
  refine (same_st HL.out (by decide) (S10.out.rd mem1) (S10.out.rdHead HL.out mem5)).mono ?_
  rintro e w11 ⟨rfl, hh⟩
  have h11 := S10.out.call hh; clear hh S10
  try simp only [List.nil_append, List.cons_append, List.append_eq, Int.toNat_natCast] at h11
  have S11 := Lib.hid h11; clear h11
  go_wp2_with fail
  refine (same_st HL.out (by decide) (S11.out.rd mem0) (S11.out.rdHead HL.out mem5)).mono ?_
  rintro e w12 ⟨rfl, hh⟩
  have h12 := S11.out.call hh; clear hh S11
  try simp only [List.nil_append, List.cons_append, List.append_eq, Int.toNat_natCast] at h12
  have S12 := Lib.hid h12; clear h12
  go_wp2_with fail
  refine (samew_st (pls_length l) (by decide) (S12.out.rdU mem4) (S12.out.rdU mem2)).mono ?_
  rintro e w13 ⟨rfl, hh⟩
  have h13 := S12.out.call hh; clear hh S12
  try simp only [List.nil_append, List.cons_append, List.append_eq, Int.toNat_natCast] at h13
  have S13 := Lib.hid h13; clear h13
  have SA := S13; clear S13
  go_wp2_with fail
  go_loopw [16] (fun vj wq => ∃ (j : Nat) (s : List Nat), j ≤ 64 ∧ vj = .int .i64 j ∧ s.length = 64 ∧ B8 s ∧ St w wq [] [bt b2 l, bt b1 l, ⟨wt, 30, row .u64 (pls l)⟩, ⟨p2, 30, row .u64 (pls l)⟩, ⟨p1, 30, row .u64 (pls l)⟩, bt g (s ++ tl), ⟨xb, 42, row .u8 l⟩]) (fun vj _ => 64 - (intOf vj).toNat)
  case atStart => exact ⟨0, l, by omega, rfl, HL.out, H8.out, SA.out⟩
  case round =>
    clear SA
    obtain ⟨j, s, hj, rfl, hsl, hs8, hs⟩ := hrel
    have S7 := Lib.hid hs; have HSL := Lib.hid hsl; have HS8 := Lib.hid hs8
    clear hs hsl hs8
    by_cases hjt : j < 64
    · have m1 := (S7.out.blk mem5).cellRow (i := j) (by rw [List.length_append, HSL.out]; omega)
      have f1 := (S7.out.blk mem5).free (i := j)
      rw [head_get (by rw [HSL.out]; exact hjt)] at m1
      have hx := HS8.out.get (i := j) (by rw [HSL.out]; exact hjt)
      generalize s.getD j 0 = x at *
      have j1 : (j : Int) < 64 := by omega
      have e1 : (x : Int) * 5 % 256 = ((x * 5 % 256 : Nat) : Int) := by omega
      have e2 : IntKind.u8.wrap ((x : Int) * 5) = ((x * 5 % 256 : Nat) : Int) := e1
      obtain ⟨y1, hy1⟩ : ∃ y1, Hid (x * 5 % 256 = y1) := ⟨_, Lib.hid rfl⟩
      rw [hy1.out] at e1 e2
      obtain ⟨y3, hy3'⟩ : ∃ y3 : Nat, Hid (((y1 : Int) + 3) % 256 = (y3 : Int) ∧ y3 < 256) := ⟨(y1 + 3) % 256, Lib.hid ⟨by omega, Nat.mod_lt _ (by decide)⟩⟩
      have e7 : ((y1 : Int) + 3) % 256 = (y3 : Int) := hy3'.out.1
      have e8 : IntKind.u8.wrap ((y1 : Int) + 3) = (y3 : Int) := e7
      have hy3 : y3 < 256 := hy3'.out.2
      go_wp2_with fail
      clear m1 f1 e1 e2 e7 e8
      refine ⟨⟨j + 1, s.set j y3, by omega, by simp, by rw [List.length_set]; exact HSL.out, set_b8 HS8.out hy3, ?_⟩, ?_⟩
      · rw [← head_set (by rw [HSL.out]; exact hjt)]
        exact S7.out.setRow (N1 := [_, _, _, _, _]) j y3
      · simp [intOf]; omega
    · obtain rfl : j = 64 := by omega
      have ES := Lib.hid (blk_pls HSL.out HS8.out)
      go_wp2_with fail
      refine (Planes_st HSL.out (S7.out.rdHead HSL.out mem5) HS8.out).mono ?_
      rintro e w8 ⟨p3, rfl, hh⟩
      have h8 := S7.out.call hh; clear hh S7
      try simp only [List.nil_append, List.cons_append, List.append_eq, Int.toNat_natCast] at h8
      have S8 := Lib.hid h8; clear h8
      go_wp2_with fail
      refine (rPlanes_st HSL.out (S8.out.rdHead HSL.out mem6) HS8.out).mono ?_
      rintro e w9 ⟨td, rfl, hh⟩
      have h9 := S8.out.call hh; clear hh S8
      try simp only [List.nil_append, List.cons_append, List.append_eq, Int.toNat_natCast] at h9
      have S9 := Lib.hid h9; clear h9
      go_wp2_with fail
      refine (samew_st (pls_length s) (by decide) (S9.out.rdU mem1) (S9.out.rdU mem0)).mono ?_
      rintro e w10 ⟨rfl, hh⟩
      have h10 := S9.out.call hh; clear hh S9
      try simp only [List.nil_append, List.cons_append, List.append_eq, Int.toNat_natCast] at h10
      have S10 := Lib.hid h10; clear h10
      go_wp2_with fail
      refine (samew_st (pls_length l) (by decide) (S10.out.rdU mem6) (S10.out.rdU mem4)).mono ?_
      rintro e w11 ⟨rfl, hh⟩
      have h11 := S10.out.call hh; clear hh S10
      try simp only [List.nil_append, List.cons_append, List.append_eq, Int.toNat_natCast] at h11
      have S11 := Lib.hid h11; clear h11
      go_wp2_with fail
      refine (samew_st (pls_length l) (by decide) (S11.out.rdU mem5) (S11.out.rdU mem4)).mono ?_
      rintro e w12 ⟨rfl, hh⟩
      have h12 := S11.out.call hh; clear hh S11
      try simp only [List.nil_append, List.cons_append, List.append_eq, Int.toNat_natCast] at h12
      have S12 := Lib.hid h12; clear h12
      go_wp2_with fail
      refine (same_st HL.out (by decide) (S12.out.rd mem3) (S12.out.rd (t := 42) (by simp))).mono ?_
      rintro e w13 ⟨rfl, hh⟩
      have h13 := S12.out.call hh; clear hh S12
      try simp only [List.nil_append, List.cons_append, List.append_eq, Int.toNat_natCast] at h13
      have S13 := Lib.hid h13; clear h13
      have SB := S13; clear S13
      go_wp2_with fail
      go_loopw [21] (fun vj wq => ∃ (j : Nat) (P : List Nat), j ≤ 8 ∧ vj = .int .i64 j ∧ P.length = 8 ∧ (∀ k, k < j → P.getD k 0 = (pls s).getD k 0) ∧ St w wq [] [⟨td, 30, row .u64 (pls s)⟩, ⟨p3, 30, row .u64 (pls s)⟩, bt b2 l, bt b1 l, ⟨wt, 30, row .u64 (pls l)⟩, ⟨p2, 30, row .u64 (pls l)⟩, ⟨p1, 30, row .u64 P⟩, bt g (s ++ tl), ⟨xb, 42, row .u8 l⟩]) (fun vj _ => 8 - (intOf vj).toNat)
      case atStart => exact ⟨0, pls l, by omega, rfl, pls_length l, fun k hk => by omega, SB.out⟩
      case round =>
        clear SB
        obtain ⟨j, P, hj, rfl, hpl, hpk, hs⟩ := hrel
        have S8 := Lib.hid hs; have HPL := Lib.hid hpl; have HPK := Lib.hid hpk
        clear hs hpl hpk
        by_cases hjt : j < 8
        · have m1 := (S8.out.blk mem6).cellRow (i := j) (by rw [HPL.out]; exact hjt)
          have f1 := (S8.out.blk mem6).free (i := j)
          have m2 := (S8.out.blk mem0).cellRow (i := j) (by rw [pls_length]; exact hjt)
          obtain ⟨x, HX⟩ : ∃ x, Hid ((pls s).getD j 0 = x) := ⟨_, Lib.hid rfl⟩
          rw [HX.out] at m2
          generalize P.getD j 0 = y at *
          have j1 : (j : Int) < 8 := by omega
          go_wp2_with fail
          clear m1 f1 m2
          refine ⟨⟨j + 1, P.set j x, by omega, by simp, by rw [List.length_set]; exact HPL.out, fun k hk => ?_, S8.out.setRow (N1 := [_, _, _, _, _, _]) j x⟩, ?_⟩
          · by_cases hkj : j = k
            · subst hkj
              rw [List.getD_eq_getElem?_getD, List.getElem?_set_self (by rw [HPL.out]; exact hjt), HX.out]; rfl
            · rw [List.getD_eq_getElem?_getD, List.getElem?_set_ne hkj, ← List.getD_eq_getElem?_getD]
              exact HPK.out k (by omega)
          · simp [intOf]; omega
        · obtain rfl : j = 8 := by omega
          have hP : P = pls s := by
            apply List.ext_getElem?
            intro k
            by_cases hk : k < 8
            · have := HPK.out k hk
              rw [List.getElem?_eq_getElem (by rw [HPL.out]; exact hk), List.getElem?_eq_getElem (by rw [pls_length]; exact hk)]
              rw [List.getD_eq_getElem?_getD, List.getD_eq_getElem?_getD, List.getElem?_eq_getElem (by rw [HPL.out]; exact hk), List.getElem?_eq_getElem (by rw [pls_length]; exact hk)] at this
              exact congrArg some this
            · rw [List.getElem?_eq_none (by rw [HPL.out]; omega), List.getElem?_eq_none (by rw [pls_length]; omega)]
          subst hP
          clear HPK HPL
          go_wp2_with fail
          refine (Block_st (ps := pls s) (pls_length s) (S8.out.rdU mem6) (pls_w64 s)).mono ?_
          rintro e w9 ⟨b3, rfl, hh⟩
          have h9 := S8.out.call hh; clear hh S8
          try simp only [List.nil_append, List.cons_append, List.append_eq, Int.toNat_natCast] at h9
          rw [ES.out] at h9
          have S9 := Lib.hid h9; clear h9
          go_wp2_with fail
          refine (same_st HSL.out (by decide) (S9.out.rd mem0) (S9.out.rdHead HSL.out mem8)).mono ?_
          rintro e w10 ⟨rfl, hh⟩
          have h10 := S9.out.call hh; clear hh S9
          try simp only [List.nil_append, List.cons_append, List.append_eq, Int.toNat_natCast] at h10
          have S10 := Lib.hid h10; clear h10
          go_wp2_with fail
          refine (same_st HL.out (by decide) (S10.out.rd mem4) (S10.out.rd (t := 42) (by simp))).mono ?_
          rintro e w11 ⟨rfl, hh⟩
          have h11 := S10.out.call hh; clear hh S10
          try simp only [List.nil_append, List.cons_append, List.append_eq, Int.toNat_natCast] at h11
          have S11 := Lib.hid h11; clear h11
          go_wp2_with fail
          refine (same_st HL.out (by decide) (S11.out.rd mem3) (S11.out.rd (t := 42) (by simp))).mono ?_
          rintro e w12 ⟨rfl, hh⟩
          have h12 := S11.out.call hh; clear hh S11
          try simp only [List.nil_append, List.cons_append, List.append_eq, Int.toNat_natCast] at h12
          have S12 := Lib.hid h12; clear h12
          go_wp2_with fail
          refine (Columns2 (c : Int) _ (by omega) (by omega)).mono ?_
          rintro e w13 ⟨c1, D1, rfl, hq1, ht1, hh⟩
          have h13 := S12.out.call hh; clear hh S12
          try simp only [List.nil_append, List.cons_append, List.append_eq, Int.toNat_natCast] at h13
          rw [Int.toNat_natCast] at ht1; have HQ1 := Lib.hid hq1; have HT1 := Lib.hid ht1; clear hq1 ht1
          have S13 := Lib.hid h13; clear h13
          go_wp2_with fail
          refine (Columns2 (c : Int) _ (by omega) (by omega)).mono ?_
          rintro e w14 ⟨c2, D2, rfl, hq2, ht2, hh⟩
          have h14 := S13.out.call hh; clear hh S13
          try simp only [List.nil_append, List.cons_append, List.append_eq, Int.toNat_natCast] at h14
          rw [Int.toNat_natCast] at ht2; have HQ2 := Lib.hid hq2; have HT2 := Lib.hid ht2; clear hq2 ht2
          have S14 := Lib.hid h14; clear h14
          go_wp2_with fail
          refine (rcolumns_st c _ hc).mono ?_
          rintro e w15 ⟨rc, rfl, hh⟩
          have h15 := S14.out.call hh; clear hh S14
          try simp only [List.nil_append, List.cons_append, List.append_eq, Int.toNat_natCast] at h15
          have S15 := Lib.hid h15; clear h15
          go_wp2_with fail
          refine (same_st (cols_length c) (by decide) (S15.out.rdTake mem2 HT1.out) (S15.out.rd mem0)).mono ?_
          rintro e w16 ⟨rfl, hh⟩
          have h16 := S15.out.call hh; clear hh S15
          try simp only [List.nil_append, List.cons_append, List.append_eq, Int.toNat_natCast] at h16
          have S16 := Lib.hid h16; clear h16
          go_wp2_with fail
          refine (same_st (cols_length c) (by decide) (S16.out.rdTake mem2 HT1.out) (S16.out.rdTake mem1 HT2.out)).mono ?_
          rintro e w17 ⟨rfl, hh⟩
          have h17 := S16.out.call hh; clear hh S16
          try simp only [List.nil_append, List.cons_append, List.append_eq, Int.toNat_natCast] at h17
          have S17 := Lib.hid h17; clear h17
          go_wp2_with ((with_reducible refine at_slot (N := 173) rfl ?_); refine wpList_load_row rfl _ _ rfl xb rfl _ (row .u8 l) _ (.array 64 5) (S17.out.blk (t := 42) (by simp)) (by kernel_rfl) rfl (by rw [row_size, HL.out]; kernel_rfl) ?_)
          refine (anew_st c l _ hc HL.out H8.out).mono ?_
          rintro e w18 ⟨rfl, hh⟩
          have h18 := S17.out.call hh; clear hh S17
          try simp only [List.nil_append, List.cons_append, List.append_eq, Int.toNat_natCast] at h18
          have S18 := Lib.hid h18; clear h18
          have SC := S18; clear S18
          go_wp2_with fail
          obtain ⟨DS, hDS⟩ : ∃ DS : List Sd, DS = [⟨some ⟨g, 0, none⟩, 64, cg⟩, ⟨some ⟨b1, 0, none⟩, 64, 64⟩, ⟨some ⟨b2, 0, none⟩, 64, 64⟩, ⟨some ⟨b3, 0, none⟩, 64, 64⟩, ⟨some ⟨c1, 0, none⟩, 8, D1.length⟩, ⟨some ⟨c2, 0, none⟩, 8, D2.length⟩] := ⟨_, rfl⟩
          have HFa : Hid (Fam 6 (Own e8 5 DS (fun _ l => l.length ≤ 1048576)) [[bt g (s ++ tl)], [bt b1 l], [bt b2 l], [bt b3 s], [bt c1 D1], [bt c2 D2]]) := Lib.hid (by
            subst hDS
            refine ⟨rfl, fun i G h => ?_⟩
            have hcl := cols_length c
            rcases i with _ | _ | _ | _ | _ | _ | i
            · simp at h; subst h; exact own_row rfl (by rw [List.length_append, HSL.out]; omega) (by rw [List.length_append, HSL.out]; exact HCG.out) HMX.out (by have := HSL.out; rw [← this]; exact List.take_left) HSL.out (by rw [HSL.out]; decide)
            · simp at h; subst h; exact own_row rfl (by rw [HL.out]; exact Nat.le_refl _) HL.out (by decide) (List.take_of_length_le (by rw [HL.out]; exact Nat.le_refl _)) HL.out (by rw [HL.out]; decide)
            · simp at h; subst h; exact own_row rfl (by rw [HL.out]; exact Nat.le_refl _) HL.out (by decide) (List.take_of_length_le (by rw [HL.out]; exact Nat.le_refl _)) HL.out (by rw [HL.out]; decide)
            · simp at h; subst h; exact own_row rfl (by rw [HSL.out]; exact Nat.le_refl _) HSL.out (by decide) (List.take_of_length_le (by rw [HSL.out]; exact Nat.le_refl _)) HSL.out (by rw [HSL.out]; decide)
            · simp at h; subst h; exact own_row rfl HQ1.out.1 rfl HQ1.out.2 HT1.out (cols_length c) (by rw [hcl]; decide)
            · simp at h; subst h; exact own_row rfl HQ2.out.1 rfl HQ2.out.2 HT2.out (cols_length c) (by rw [hcl]; decide)
            · simp at h)
          have SD := Lib.hid ((SC.out.alloc 22 (cellsV es DS)).order [12, 8, 7, 4, 3, 2, 0, 11, 10, 6] rfl (by decide))
          subst hDS
          refine (ap7_st (kk := 6) (Gs := [[bt g (s ++ tl)], [bt b1 l], [bt b2 l], [bt b3 s], [bt c1 D1], [bt c2 D2]]) rfl (by decide) SD.out HFa.out (fun w' N' hs hm => hs.rdV (hm _ (List.mem_cons_self)))).mono ?_
          rintro e wE ⟨rfl, hE⟩
          have SE := Lib.hid hE
          clear hE SD SC HFa
          go_wp2_with fail
          obtain ⟨DS, hDS⟩ : ∃ DS : List Sd, DS = [⟨some ⟨p1, 0, none⟩, 8, 8⟩, ⟨some ⟨p2, 0, none⟩, 8, 8⟩, ⟨some ⟨p3, 0, none⟩, 8, 8⟩] := ⟨_, rfl⟩
          have HFa : Hid (Fam 3 (Own e64 30 DS (fun _ l => l.length ≤ 1048576)) [[⟨p1, 30, row .u64 (pls s)⟩], [⟨p2, 30, row .u64 (pls l)⟩], [⟨p3, 30, row .u64 (pls s)⟩]]) := Lib.hid (by
            subst hDS
            refine ⟨rfl, fun i G h => ?_⟩
            rcases i with _ | _ | _ | i
            · simp at h; subst h; exact own_row64 rfl (pls_length s)
            · simp at h; subst h; exact own_row64 rfl (pls_length l)
            · simp at h; subst h; exact own_row64 rfl (pls_length s)
            · simp at h)
          have SF := Lib.hid ((SE.out.alloc 43 (cellsV es DS)).order [2, 3, 4, 0] rfl (by decide))
          subst hDS
          refine (ap64_st (kk := 3) (Gs := [[⟨p1, 30, row .u64 (pls s)⟩], [⟨p2, 30, row .u64 (pls l)⟩], [⟨p3, 30, row .u64 (pls s)⟩]]) rfl (by decide) SF.out HFa.out (fun w' N' hs hm => hs.rdV (hm _ (List.mem_cons_self)))).mono ?_
          rintro e wF ⟨rfl, hF⟩
          have SG := Lib.hid hF
          clear hF SF SE HFa
          go_wp2_with fail
          go_ret
          exact ⟨rfl, SG.out.below⟩

end Go.Proofs.Ytcjcolmhhbnmgaa.Sl
