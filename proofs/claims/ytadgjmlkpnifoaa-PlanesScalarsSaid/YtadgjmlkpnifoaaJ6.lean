/- Layer 8: the law PlanesScalars: its walk. -/
import Derived.Test.YtadgjmlkpnifoaaJ5
namespace Go.Proofs.Ytadgjmlkpnifoaa.Pq
set_option linter.unusedSimpArgs false
set_option linter.unusedVariables false
open Go Go.RowKit Go.Proofs.Ytadgjmlkpnifoaa Go.Proofs.Ytadgjmlkpnifoaa.Mm Go.Proofs.Ytadgjmlkpnifoaa.Gh Go.Proofs.Ytadgjmlkpnifoaa.Wr Go.Proofs.Ytadgjmlkpnifoaa.St

/-- The four rows, each where it stands. -/
theorem quad {w : World} {A : Option Addr} {c : Nat} (h : RdQ w A (qs c 4)) : ∃ b o, A = some ⟨b, o, none⟩ ∧ ∃ B O C : Nat → Nat, ∀ k, k < 4 → w.cell? ⟨b, o + k, none⟩ = some (.slice (some ⟨B k, O k, none⟩) (16 : Nat) (C k)) ∧ ∀ j, j < 16 → w.cell? ⟨B k, O k + j, none⟩ = some (.int .u16 ((qf c (16 * k + j) : Nat) : Int)) := by
  obtain ⟨ds, hr, hl, hd⟩ := h
  rw [qs_length] at hl
  obtain ⟨b, o, hA, hc⟩ := hr (by omega)
  refine ⟨b, o, hA, ?_⟩
  have key : ∀ k, ∃ t : Nat × Nat × Nat, k < 4 → w.cell? ⟨b, o + k, none⟩ = some (.slice (some ⟨t.1, t.2.1, none⟩) (16 : Nat) t.2.2) ∧ ∀ j, j < 16 → w.cell? ⟨t.1, t.2.1 + j, none⟩ = some (.int .u16 ((qf c (16 * k + j) : Nat) : Int)) := by
    intro k
    by_cases hk : k < 4
    · obtain ⟨d, hdk⟩ : ∃ d, ds[k]? = some d := ⟨ds[k]'(by omega), by simp⟩
      have h1 := hc k d hdk
      obtain ⟨h2, h3⟩ := hd k d hdk
      rw [qs_get hk] at h2 h3
      obtain ⟨b', o', hA', hc'⟩ := h3 (by rw [qr_length]; decide)
      obtain ⟨A', n', c'⟩ := d
      simp only at h1 h2 hA'
      subst hA'
      rw [qr_length] at h2
      subst h2
      refine ⟨⟨b', o', c'⟩, fun _ => ⟨h1, fun j hj => ?_⟩⟩
      have := hc' j (gm c (j * 16 ^ k)) (by simp [qr, hj])
      rw [qf_at hj]
      exact this
    · exact ⟨⟨0, 0, 0⟩, fun h => absurd h hk⟩
  exact ⟨fun k => (Classical.choose (key k)).1, fun k => (Classical.choose (key k)).2.1, fun k => (Classical.choose (key k)).2.2, fun k hk => Classical.choose_spec (key k) hk⟩

set_option maxRecDepth 100000 in
set_option maxHeartbeats 4000000 in
theorem scalars_walk (c : Nat) (A : Option Addr) (n cp : Nat) (x : List Nat) (w : World) (hc : c < 65536) (h : (Kk.kSlice Kk.kByte 1).ok w.heap.size w [.slice A n cp] x) :
    Calls Try.prog 6 #[.int .u16 (c : Int), .slice A n cp] w fun e w' => e = .returned (.bool true) ∧ Below w.heap.size w w' := by
  obtain ⟨hl, hn, hcp, hr, h8, _⟩ := open_bytes h
  obtain ⟨q, hq⟩ : ∃ q, n / 2 * 2 = q := ⟨_, rfl⟩
  have HQ := Lib.hid hq
  have Q2 := Lib.hid (show q % 2 = 0 by omega)
  have qn : q ≤ n := by omega
  have qc : q ≤ cp := by omega
  have qb : q ≤ 281474976710656 := by omega
  have qb2 : q ≤ 140737488351232 := by omega
  have R0 := rd_take hr q
  have B0 := h8.take q
  have L0 : (x.take q).length = q := by rw [List.length_take]; omega
  obtain ⟨X, hX⟩ : ∃ X, x.take q = X := ⟨_, rfl⟩
  rw [hX] at R0 B0 L0
  have HR := Lib.hid R0; have H8 := Lib.hid B0; have HL := Lib.hid L0
  have HPL : Hid ((pm c X).length = q) := Lib.hid (by rw [pm_length, L0])
  have HPB := Lib.hid (pm_b8 hc X)
  obtain ⟨r, hr2⟩ : ∃ r, q = 2 * r := ⟨q / 2, by omega⟩
  have HRQ := Lib.hid hr2
  have hr3 : q / 2 = r := by omega
  have rb : r ≤ 140737488351232 := by omega
  have HWL : Hid ((ws X).length = r) := Lib.hid (by rw [ws_length, L0, hr3])
  have HWP : Hid ((ws (pm c X)).length = r) := Lib.hid (by rw [ws_length, HPL.out, hr3])
  have HR3 := Lib.hid hr3
  clear h hl hr h8 R0 B0 hX hq L0 hr2 hr3
  have S0 := Lib.hid (St.start w)
  go_enter Try.func6, Try.ntmps6
  go_wp2_with fail
  refine (awake_st _).mono ?_
  rintro e w1 ⟨k, rfl, hh⟩
  have h1 := S0.out.call hh; clear hh S0
  try simp only [List.nil_append, List.cons_append, List.append_eq, Int.toNat_natCast] at h1
  have S1 := Lib.hid h1; clear h1
  go_wp2_with fail
  refine (even_st A n cp _ hcp hn).mono ?_
  rintro e _ ⟨rfl, rfl⟩
  rw [HQ.out]
  go_wp2_with ((with_reducible refine at_slot (N := 22) rfl ?_); refine make_law rfl 24 5 _ .u8 (q) 1 rfl rfl Try.underlying24 info_u8 (by omega) (by omega) S1.out ?_; intro db w2 h2; (try simp only [World.size_alloc, List.nil_append, List.cons_append, List.append_eq] at h2); have S2 := Lib.hid h2; clear h2 S1)
  refine (again_st hc HL.out Q2.out qb2 (S2.out.ext HR.out) H8.out).mono ?_
  rintro e w3 ⟨rfl, hh⟩
  have h3 := S2.out.call hh; clear hh S2
  try simp only [List.nil_append, List.cons_append, List.append_eq, Int.toNat_natCast] at h3
  have S3 := Lib.hid h3; clear h3
  go_wp2_with fail
  refine (mul_st (by omega) (by omega) (S3.out.blk mem0) (zs_length q) HL.out Q2.out H8.out qb (Srcs.ext S3.out mem0 HR.out)).mono ?_
  rintro e w4 ⟨rfl, hh⟩
  have h4 := S3.out.callN (N1 := []) hh; clear hh S3
  try simp only [List.nil_append, List.cons_append, List.append_eq, Int.toNat_natCast] at h4
  have S4 := Lib.hid h4; clear h4
  go_wp2_with fail
  refine (quarters_st c _ hc).mono ?_
  rintro e w5 ⟨AQ, cq, NQ, rfl, hpl, hh⟩
  have h5 := S4.out.call hh; clear hh S4
  try simp only [List.nil_append, List.cons_append, List.append_eq, Int.toNat_natCast] at h5
  have HPQ := Lib.hid hpl; clear hpl
  have S5 := Lib.hid h5; clear h5
  go_wp2_with fail
  refine (Words_st HL.out Q2.out qb2 (S5.out.ext HR.out) H8.out).mono ?_
  rintro e w6 ⟨vb, rfl, hh⟩
  have h6 := S5.out.call hh; clear hh S5
  try simp only [List.nil_append, List.cons_append, List.append_eq, Int.toNat_natCast] at h6
  have S6 := Lib.hid h6; clear h6
  rw [HR3.out]
  go_wp2_with fail
  refine (Words_st HPL.out Q2.out qb2 (S6.out.rd (b := db) (t := 5) (by simp)) HPB.out).mono ?_
  rintro e w7 ⟨wb, rfl, hh⟩
  have h7 := S6.out.call hh; clear hh S6
  try simp only [List.nil_append, List.cons_append, List.append_eq, Int.toNat_natCast] at h7
  have S7 := Lib.hid h7; clear h7
  rw [HR3.out]
  have HSN := S7.out
  obtain ⟨NN, SN, hv, hw, hnq⟩ : ∃ NN : List Ent, St w w7 [] NN ∧ (⟨vb, 23, row .u16 (ws X)⟩ : Ent) ∈ NN ∧ (⟨wb, 23, row .u16 (ws (pm c X))⟩ : Ent) ∈ NN ∧ ∀ e ∈ NQ, e ∈ NN := ⟨_, S7.out, by simp, by simp, fun e he => by simp [he]⟩
  clear S7 HSN
  have S7 := Lib.hid SN; have HV := Lib.hid hv; have HW := Lib.hid hw; have HNQ := Lib.hid hnq
  have HCQ : Hid (∀ wx, St w wx [] NN → RdQ wx AQ (qs c 4)) := Lib.hid (fun wx hs => HPQ.out w wx [] NN hs HNQ.out)
  clear SN hv hw hnq HPQ
  obtain ⟨bq, oq, eA, B, O, C, hqu⟩ := quad (HCQ.out w7 S7.out)
  subst eA
  have HQ7 := Lib.hid hqu; clear hqu
  have g3 : (q : Int) / 2 = (r : Int) := by have := HRQ.out; omega
  have g4 : (q : Int).tdiv 2 = (r : Int) := by rw [Int.tdiv_eq_ediv_of_nonneg (by omega)]; exact g3
  go_wp2_with fail
  clear g3 g4
  go_loopw [12] (fun vi wr => ∃ i : Nat, i ≤ 4 ∧ vi = .int .i64 i ∧ St w wr [] NN ∧ ∀ k, k < 4 → wr.cell? ⟨bq, oq + k, none⟩ = some (.slice (some ⟨B k, O k, none⟩) (16 : Nat) (C k)) ∧ ∀ j, j < 16 → wr.cell? ⟨B k, O k + j, none⟩ = some (.int .u16 ((qf c (16 * k + j) : Nat) : Int))) (fun vi _ => 4 - (intOf vi).toNat)
  case atStart => exact ⟨0, by omega, rfl, S7.out, HQ7.out⟩
  case round =>
    clear HQ7 S7
    obtain ⟨i, hi, rfl, hs, hqu⟩ := hrel
    have S8 := Lib.hid hs; have HQ8 := Lib.hid hqu; clear hs hqu
    by_cases hlt : i < 4
    · have m1 := (HQ8.out i hlt).1
      have i0 : (0 : Int) ≤ (i : Int) := by omega
      have i1 : (i : Int) < 4 := by omega
      go_wp2_with fail
      clear m1
      refine ⟨⟨i + 1, by omega, by simp, S8.out, HQ8.out⟩, ?_⟩
      simp [intOf]; omega
    · obtain rfl : i = 4 := by omega
      obtain ⟨r0, c0⟩ := HQ8.out 0 (by decide)
      obtain ⟨r1, c1⟩ := HQ8.out 1 (by decide)
      have d0 := c0 1 (by decide)
      have d1 := c1 1 (by decide)
      rw [show qf c (16 * 0 + 1) = c from by rw [qf_at (by decide)]; exact gm_one hc] at d0
      rw [show qf c (16 * 1 + 1) = gm c 16 from by rw [qf_at (by decide)]] at d1
      rw [Nat.add_zero] at r0
      clear c0 c1
      have MP : Hid (∀ (W : World) (a : Int), a = 16 → Calls Try.prog 20 #[.int .u16 (c : Int), .int .u16 a] W fun e w' => e = .returned (.int .u16 ((gm c 16 : Nat) : Int)) ∧ W = w') := Lib.hid (fun W a ha => by
        subst ha; exact Rg.gmul_calls c 16 W hc (by decide))
      go_wp2_with fail
      go_quiet ((go_at_call 20; exact Calls.quiet_of_same ((MP.out _ _ rfl).mono fun _ _ h => ⟨h.1, h.2.symm⟩)))
      clear r0 r1 d0 d1
      go_wp2_with fail
      go_loopw [13] (fun vi wx => ∃ i : Nat, i ≤ r ∧ vi = .int .i64 i ∧ St w wx [] NN ∧ ∀ k, k < 4 → wx.cell? ⟨bq, oq + k, none⟩ = some (.slice (some ⟨B k, O k, none⟩) (16 : Nat) (C k)) ∧ ∀ j, j < 16 → wx.cell? ⟨B k, O k + j, none⟩ = some (.int .u16 ((qf c (16 * k + j) : Nat) : Int))) (fun vi _ => r - (intOf vi).toNat)
      case atStart => exact ⟨0, by omega, rfl, S8.out.drewN, HQ8.out⟩
      case round =>
        clear HQ8 S8
        obtain ⟨i, hi, rfl, hs, hqu⟩ := hrel
        have S9 := Lib.hid hs; have HQ9 := Lib.hid hqu; clear hs hqu
        by_cases hlt : i < r
        · have hrq := HRQ.out
          have v1 := (S9.out.blk HV.out).cellRow (i := i) (by rw [HWL.out]; exact hlt)
          have v2 := (S9.out.blk HW.out).cellRow (i := i) (by rw [HWP.out]; exact hlt)
          have n1 : (ws X).getD i 0 = wd X i := by rw [List.getD_eq_getElem?_getD, ws_get (by rw [HL.out]; omega)]; rfl
          have n2 : (ws (pm c X)).getD i 0 = gm c (wd X i) := by
            rw [List.getD_eq_getElem?_getD, ws_get (by rw [HPL.out]; omega)]
            show wd (pm c X) i = _
            unfold wd
            rw [pm_even (by rw [HL.out]; omega), pm_odd' (by rw [HL.out]; omega)]
            unfold wd
            omega
          have hN : wd X i < 65536 := by
            have h1 := get256 H8.out (2 * i); have h2 := get256 H8.out (2 * i + 1)
            unfold wd; omega
          rw [n1] at v1; rw [n2] at v2
          clear n1 n2 hrq
          generalize wd X i = N at *
          obtain ⟨r0, c0⟩ := HQ9.out 0 (by decide)
          obtain ⟨r1, c1⟩ := HQ9.out 1 (by decide)
          obtain ⟨r2, c2⟩ := HQ9.out 2 (by decide)
          obtain ⟨r3, c3⟩ := HQ9.out 3 (by decide)
          have m0 := c0 (N % 16) (by omega)
          have m1 := c1 (N / 16 % 16) (by omega)
          have m2 := c2 (N / 256 % 16) (by omega)
          have m3 := c3 (N / 4096) (by omega)
          clear c0 c1 c2 c3
          rw [show 16 * 0 + N % 16 = N % 16 by omega] at m0
          rw [show 16 * 1 + N / 16 % 16 = 16 + N / 16 % 16 by omega] at m1
          rw [show 16 * 2 + N / 256 % 16 = 32 + N / 256 % 16 by omega] at m2
          rw [show 16 * 3 + N / 4096 = 48 + N / 4096 by omega] at m3
          rw [Nat.add_zero] at r0
          have h0 := qf_lt hc (N % 16)
          have h1 := qf_lt hc (16 + N / 16 % 16)
          have h2 := qf_lt hc (32 + N / 256 % 16)
          have h3 := qf_lt hc (48 + N / 4096)
          have HS := Lib.hid (quarters_sum (c := c) hN)
          generalize qf c (N % 16) = y0 at *
          generalize qf c (16 + N / 16 % 16) = y1 at *
          generalize qf c (32 + N / 256 % 16) = y2 at *
          generalize qf c (48 + N / 4096) = y3 at *
          have MP : Hid (∀ (W : World), Calls Try.prog 20 #[.int .u16 (c : Int), .int .u16 (N : Int)] W fun e w' => e = .returned (.int .u16 ((gm c N : Nat) : Int)) ∧ W = w') := Lib.hid (fun W => Rg.gmul_calls c N W hc hN)
          have t0 : Int.tmod (N : Int) 16 = (N : Int) % 16 := Int.tmod_eq_emod_of_nonneg (by omega)
          have t1 : Int.tdiv (N : Int) 16 = (N : Int) / 16 := Int.tdiv_eq_ediv_of_nonneg (by omega)
          have t2 : Int.tmod ((N : Int) / 16) 16 = (N : Int) / 16 % 16 := Int.tmod_eq_emod_of_nonneg (by omega)
          have t3 : Int.tdiv (N : Int) 256 = (N : Int) / 256 := Int.tdiv_eq_ediv_of_nonneg (by omega)
          have t4 : Int.tmod ((N : Int) / 256) 16 = (N : Int) / 256 % 16 := Int.tmod_eq_emod_of_nonneg (by omega)
          have t5 : Int.tdiv (N : Int) 4096 = (N : Int) / 4096 := Int.tdiv_eq_ediv_of_nonneg (by omega)
          have s01 : 0 ≤ (N : Int) % 16 := by omega
          have s02 : (N : Int) % 16 < 16 := by omega
          have s03 : ((N : Int) % 16).toNat = N % 16 := by omega
          have s11 : 0 ≤ (N : Int) / 16 % 16 := by omega
          have s12 : (N : Int) / 16 % 16 < 16 := by omega
          have s13 : ((N : Int) / 16 % 16).toNat = N / 16 % 16 := by omega
          have s21 : 0 ≤ (N : Int) / 256 % 16 := by omega
          have s22 : (N : Int) / 256 % 16 < 16 := by omega
          have s23 : ((N : Int) / 256 % 16).toNat = N / 256 % 16 := by omega
          have s31 : 0 ≤ (N : Int) / 4096 := by omega
          have s32 : (N : Int) / 4096 < 16 := by omega
          have s33 : ((N : Int) / 4096).toNat = N / 4096 := by omega
          have x1 : Go.bits .xor .u16 (y0 : Int) (y1 : Int) = ((y0 ^^^ y1 : Nat) : Int) := Bt.xor16 h0 h1
          have x2 : Go.bits .xor .u16 ((y0 ^^^ y1 : Nat) : Int) (y2 : Int) = ((y0 ^^^ y1 ^^^ y2 : Nat) : Int) := Bt.xor16 (xor_lt h0 h1) h2
          have x3 : Go.bits .xor .u16 ((y0 ^^^ y1 ^^^ y2 : Nat) : Int) (y3 : Int) = ((gm c N : Nat) : Int) := by rw [← HS.out]; exact Bt.xor16 (xor_lt (xor_lt h0 h1) h2) h3
          have i0 : (0 : Int) ≤ (i : Int) := by omega
          have i1 : (i : Int) < (r : Int) := by omega
          go_wp2_with fail
          go_quiet ((go_at_call 20; exact Calls.quiet_of_same ((MP.out _).mono fun _ _ h => ⟨h.1, h.2.symm⟩)))
          clear t0 t1 t2 t3 t4 t5 s03 s13 s23 s33 x1 x2 x3
          go_wp2_with fail
          refine ⟨⟨i + 1, by omega, by simp, S9.out.drewN, HQ9.out⟩, ?_⟩
          simp [intOf]; omega
        · go_wp2_with fail
          go_ret
          exact ⟨rfl, S9.out.below⟩

end Go.Proofs.Ytadgjmlkpnifoaa.Pq
