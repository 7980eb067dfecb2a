/- Layer 8: the law PlanesRound. -/
import Derived.Test.YtadgjmlkpnifoaaJ1
namespace Go.Proofs.Ytadgjmlkpnifoaa.Pq
set_option linter.unusedSimpArgs false
set_option linter.unusedVariables false
open Go Go.RowKit Go.Proofs.Ytadgjmlkpnifoaa Go.Proofs.Ytadgjmlkpnifoaa.Mm Go.Proofs.Ytadgjmlkpnifoaa.Gh Go.Proofs.Ytadgjmlkpnifoaa.Wr Go.Proofs.Ytadgjmlkpnifoaa.St

theorem mg_get {a b : List Nat} : ∀ {k i : Nat}, i < 2 * k → (mg a b k).getD i 0 = if i % 2 = 0 then a.getD (i / 2) 0 else b.getD (i / 2) 0
  | 0, i, h => by omega
  | k + 1, i, h => by
    rw [mg_succ, List.getD_eq_getElem?_getD]
    by_cases hi : i < 2 * k
    · rw [List.getElem?_append_left (by rw [mg_length]; exact hi), ← List.getD_eq_getElem?_getD, mg_get hi]
    · rw [List.getElem?_append_right (by rw [mg_length]; omega), mg_length]
      by_cases h2 : i = 2 * k
      · subst h2; simp
      · have : i = 2 * k + 1 := by omega
        subst this
        have h3 : (2 * k + 1) / 2 = k := by omega
        simp [h3]
theorem mg_parts {x : List Nat} (h : x.length % 2 = 0) : mg (lo x) (hi x) (x.length / 2) = x := by
  apply ext8
  · rw [mg_length]; omega
  · intro i hi'
    rw [mg_length] at hi'
    rw [mg_get hi']
    have h1 : i / 2 < x.length / 2 := by omega
    split
    · simp only [lo, List.getD_eq_getElem?_getD, List.getElem?_map, List.getElem?_range h1, Option.map_some, Option.getD_some]
      rw [show 2 * (i / 2) = i by omega]
    · simp only [hi, List.getD_eq_getElem?_getD, List.getElem?_map, List.getElem?_range h1, Option.map_some, Option.getD_some]
      rw [show 2 * (i / 2) + 1 = i by omega]
theorem rev_ind {P : List Nat → Prop} (h0 : P []) (h1 : ∀ l x, P l → P (l ++ [x])) (l : List Nat) : P l := by
  have : ∀ k, ∀ l : List Nat, l.length = k → P l := by
    intro k
    induction k with
    | zero => intro l hl; rw [List.length_eq_zero_iff.1 hl]; exact h0
    | succ k ih =>
      intro l hl
      have hne : l ≠ [] := by intro h; rw [h] at hl; simp at hl
      rw [← List.dropLast_concat_getLast hne]
      exact h1 _ _ (ih _ (by rw [List.length_dropLast]; omega))
  exact this _ l rfl
theorem bs_get {l : List Nat} {i : Nat} (h : i < 2 * l.length) : (bs l).getD i 0 = if i % 2 = 0 then l.getD (i / 2) 0 % 256 else l.getD (i / 2) 0 / 256 := by
  revert h
  refine rev_ind (P := fun l => i < 2 * l.length → (bs l).getD i 0 = if i % 2 = 0 then l.getD (i / 2) 0 % 256 else l.getD (i / 2) 0 / 256) ?_ ?_ l
  · intro h; simp at h
  · intro l x ih h
    rw [bs_snoc, List.getD_eq_getElem?_getD]
    rw [List.length_append, List.length_singleton] at h
    by_cases hi : i < 2 * l.length
    · rw [List.getElem?_append_left (by rw [bs_length]; exact hi), ← List.getD_eq_getElem?_getD, ih hi]
      simp only [List.getD_eq_getElem?_getD]
      rw [List.getElem?_append_left (by omega)]
    · rw [List.getElem?_append_right (by rw [bs_length]; omega), bs_length]
      by_cases h2 : i = 2 * l.length
      · subst h2; simp
      · have : i = 2 * l.length + 1 := by omega
        subst this
        have h3 : (2 * l.length + 1) / 2 = l.length := by omega
        simp [h3]
theorem bs_ws {x : List Nat} (h : x.length % 2 = 0) (h8 : B8 x) : bs (ws x) = x := by
  apply ext8
  · rw [bs_length, ws_length]; omega
  · intro i hi'
    rw [bs_length, ws_length] at hi'
    rw [bs_get (by rw [ws_length]; exact hi')]
    have e : (ws x).getD (i / 2) 0 = wd x (i / 2) := by rw [List.getD_eq_getElem?_getD, ws_get (by omega)]; rfl
    have h1 := get256 h8 (2 * (i / 2))
    have h2 := get256 h8 (2 * (i / 2) + 1)
    rw [e]
    unfold wd
    split
    · rw [show i = 2 * (i / 2) by omega]; rw [show 2 * (i / 2) / 2 = i / 2 by omega]; omega
    · rw [show i = 2 * (i / 2) + 1 by omega]; rw [show (2 * (i / 2) + 1) / 2 = i / 2 by omega]; omega
theorem ws_bs {l : List Nat} (h : W16 l) : ws (bs l) = l := by
  apply List.ext_getElem?
  intro t
  by_cases ht : t < l.length
  · rw [ws_get (by rw [bs_length]; omega)]
    unfold wd
    rw [bs_get (by omega), bs_get (by omega), if_pos (by omega), if_neg (by omega), show 2 * t / 2 = t by omega, show (2 * t + 1) / 2 = t by omega]
    simp [ht]; omega
  · rw [List.getElem?_eq_none (by rw [ws_length, bs_length]; omega), List.getElem?_eq_none (by omega)]

set_option maxRecDepth 100000 in
set_option maxHeartbeats 4000000 in
theorem round_walk (A : Option Addr) (n cp : Nat) (x : List Nat) (A2 : Option Addr) (n2 c2 : Nat) (ui : List Int) (w : World) (h : (Kk.kSlice Kk.kByte 1).ok w.heap.size w [.slice A n cp] x) (h2 : (Kk.kSlice (Kk.kInt .u16) 2).ok w.heap.size w [.slice A2 n2 c2] ui) :
    Calls Try.prog 8 #[.slice A n cp, .slice A2 n2 c2] w fun e w' => e = .returned (.bool true) ∧ Below w.heap.size w w' := by
  obtain ⟨hl, hn, hcp, hr, h8, _⟩ := open_bytes h
  obtain ⟨u, hul, hun, _, _, hur, hu16⟩ := open_nats (b0 := 65536) (fun y hy => by have := wf_u16 hy; omega) h2
  have HL := Lib.hid hl; have HR := Lib.hid hr; have H8 := Lib.hid h8
  have HUL := Lib.hid hul; have HU16 : Hid (W16 u) := Lib.hid hu16
  have HUR : Hid (RdV e16 w A2 u) := Lib.hid (fun h0 => by
    obtain ⟨b, o, hA, hc⟩ := hur h0
    refine ⟨b, o, hA, fun i y hy => ?_⟩
    have hi : i < u.length := (List.getElem?_eq_some_iff.1 hy).1
    rw [hc i hi]; simp [hy])
  clear h h2 hl hr h8 hul hur hu16
  have S0 := Lib.hid (St.start w)
  rcases Nat.mod_two_eq_zero_or_one n with he | ho
  · have HE := Lib.hid he
    obtain ⟨q, hq⟩ : ∃ q, n / 2 = q := ⟨_, rfl⟩
    have HQ := Lib.hid hq
    have g1 : ((n : Int) % 2 == 1) = false := by rw [beq_eq_false_iff_ne]; omega
    have g2 : ((n : Int).tmod 2 == 1) = false := by rw [Int.tmod_eq_emod_of_nonneg (by omega)]; exact g1
    have g3 : (n : Int) / 2 = (q : Int) := by omega
    have g4 : (n : Int).tdiv 2 = (q : Int) := by rw [Int.tdiv_eq_ediv_of_nonneg (by omega)]; exact g3
    have hqn : n = 2 * q := by omega
    have HQN := Lib.hid hqn
    have qb : q ≤ 70368744175616 := by omega
    have HLO : Hid ((lo x).length = q) := Lib.hid (by rw [lo_length, HL.out, hq])
    have HHI : Hid ((hi x).length = q) := Lib.hid (by rw [hi_length, HL.out, hq])
    have EM : Hid (mg (lo x) (hi x) q = x) := Lib.hid (by have := mg_parts (x := x) (by rw [HL.out]; exact he); rw [HL.out, hq] at this; exact this)
    have EB : Hid (bs (ws x) = x) := Lib.hid (bs_ws (by rw [HL.out]; exact he) H8.out)
    have EW := Lib.hid (ws_bs HU16.out)
    have HWL : Hid ((ws x).length = q) := Lib.hid (by rw [ws_length, HL.out, hq])
    clear he hq hqn
    go_enter Try.func8, Try.ntmps8
    go_wp2_with fail
    refine (awake_st _).mono ?_
    rintro e w1 ⟨k, rfl, hh⟩
    have h1 := S0.out.call hh; clear hh S0
    try simp only [List.nil_append, List.cons_append, List.append_eq, Int.toNat_natCast] at h1
    have S1 := Lib.hid h1; clear h1
    go_wp2_with fail
    refine (Words_st HL.out HE.out hn (S1.out.ext HR.out) H8.out).mono ?_
    rintro e w2 ⟨wb, rfl, hh⟩
    have h2 := S1.out.call hh; clear hh S1
    try simp only [List.nil_append, List.cons_append, List.append_eq, Int.toNat_natCast] at h2
    have S2 := Lib.hid h2; clear h2
    rw [HQ.out]
    go_wp2_with fail
    refine (Split_st HL.out HE.out hn (S2.out.ext HR.out) H8.out).mono ?_
    rintro e w3 ⟨v1, v2, G1, G2, rfl, hg1, hg2, hh⟩
    have h3 := S2.out.call hh; clear hh S2
    try simp only [List.nil_append, List.cons_append, List.append_eq, Int.toNat_natCast] at h3
    obtain ⟨A3, c3, rfl⟩ := hg1.shape; obtain ⟨A4, c4, rfl⟩ := hg2.shape; rw [HLO.out] at hg1 ⊢; rw [HHI.out] at hg2 ⊢; have HG1 := Lib.hid hg1; have HG2 := Lib.hid hg2; clear hg1 hg2
    have S3 := Lib.hid h3; clear h3
    have RW : Hid (RdV e16 w3 (some ⟨wb, 0, none⟩) (ws x)) := Lib.hid (S3.out.rdV (t := 23) (l := ws x) (by simp [row, cellsV, e16]))
    have R1 : Hid (Rd w3 A3 (lo x)) := Lib.hid (HG1.out.read S3.out (fun e he => by simp [he]))
    have R2 : Hid (Rd w3 A4 (hi x)) := Lib.hid (HG2.out.read S3.out (fun e he => by simp [he]))
    have RX : Hid (Rd w3 A x) := Lib.hid (S3.out.ext HR.out)
    go_wp2_with fail
    clear g1 g2 g3 g4
    go_loopw [10] (fun vi wr => ∃ i : Nat, i ≤ q ∧ vi = .int .i64 i ∧ ∃ k, wr = w3.drewN k) (fun vi _ => q - (intOf vi).toNat)
    case atStart => exact ⟨0, by omega, rfl, 0, rfl⟩
    case round =>
      obtain ⟨i, hile, rfl, k', rfl⟩ := hrel
      by_cases hlt : i < q
      · have hq2 := HQN.out
        obtain ⟨b0, o0, e0, k0⟩ := RX.out (by rw [HL.out]; omega)
        obtain ⟨b1, o1, e1, k1⟩ := R1.out (by rw [HLO.out]; omega)
        obtain ⟨b2, o2, e2, k2⟩ := R2.out (by rw [HHI.out]; omega)
        obtain ⟨b3, o3, e3, k3⟩ := RW.out (by rw [HWL.out]; omega)
        injection e3 with e3; injection e3 with e3 e4 _
        subst e0 e1 e2 e3 e4
        have x1 := H8.out.get (i := 2 * i) (by rw [HL.out]; omega)
        have x2 := H8.out.get (i := 2 * i + 1) (by rw [HL.out]; omega)
        have c1 : w3.cell? ⟨b0, o0 + 2 * i, none⟩ = some (.int .u8 (x.getD (2 * i) 0 : Nat)) := k0 (2 * i) (by rw [HL.out]; omega)
        have c2 : w3.cell? ⟨b0, o0 + (2 * i + 1), none⟩ = some (.int .u8 (x.getD (2 * i + 1) 0 : Nat)) := k0 (2 * i + 1) (by rw [HL.out]; omega)
        have hw : (ws x)[i]? = some (x.getD (2 * i) 0 + 256 * x.getD (2 * i + 1) 0) := by rw [ws_get (by rw [HL.out]; omega)]; rfl
        have hlo : (lo x).getD i 0 = x.getD (2 * i) 0 := by rw [List.getD_eq_getElem?_getD]; simp [lo, show i < x.length / 2 by rw [HL.out]; omega]
        have hhi : (hi x).getD i 0 = x.getD (2 * i + 1) 0 := by rw [List.getD_eq_getElem?_getD]; simp [hi, show i < x.length / 2 by rw [HL.out]; omega]
        have c3 := k3 i _ hw
        rw [Nat.zero_add] at c3
        have c4 := k1 i (by rw [HLO.out]; exact hlt)
        have c5 := k2 i (by rw [HHI.out]; exact hlt)
        rw [hlo] at c4; rw [hhi] at c5
        clear k0 k1 k2 k3 hw hlo hhi HQN HLO HHI
        generalize x.getD (2 * i) 0 = y1 at *
        generalize x.getD (2 * i + 1) 0 = y2 at *
        have i1 : 2 * (i : Int) + 1 < (n : Int) := by omega
        have i2 : 2 * (i : Int) < (n : Int) := by omega
        have i4 : (0 : Int) ≤ 2 * (i : Int) := by omega
        have i5 : (0 : Int) ≤ 2 * (i : Int) + 1 := by omega
        have i6 : (2 * (i : Int)).toNat = 2 * i := by omega
        have i7 : (2 * (i : Int) + 1).toNat = 2 * i + 1 := by omega
        have j1 : (((y1 + 256 * y2 : Nat) : Int) != (y1 : Int) + 256 * (y2 : Int)) = false := by rw [bne_eq_false_iff_eq]; omega
        clear hq2
        go_wp2
        go_quiet (fail)
        go_wp2
        go_roundw
        case rel => exact ⟨i + 1, by omega, by go_num, _, rfl⟩
        case measure => simp [intOf]; omega
      · obtain rfl : i = q := by omega
        have S4 := Lib.hid (S3.out.drewN (n := k')); clear S3
        go_wp2_with fail
        refine (Merge_st HLO.out HHI.out qb (R1.out.drewN k') (R2.out.drewN k') (lo_b8 H8.out) (hi_b8 H8.out)).mono ?_
        rintro e w5 ⟨v5, G5, rfl, hg5, hh⟩
        have h5 := S4.out.call hh; clear hh S4
        try simp only [List.nil_append, List.cons_append, List.append_eq, Int.toNat_natCast] at h5
        rw [EM.out] at hg5; obtain ⟨A5, c5, rfl⟩ := hg5.shape; rw [HL.out] at hg5 ⊢; have HG5 := Lib.hid hg5; clear hg5
        have S5 := Lib.hid h5; clear h5
        go_wp2_with fail
        have EWL : Hid ((ws x).length = i) := HWL
        refine (equal_st HL.out (by omega) (HG5.out.read S5.out (fun e he => by simp [he])) (S5.out.ext HR.out)).mono ?_
        rintro e w6 ⟨rfl, hh⟩
        have h6 := S5.out.call hh; clear hh S5
        try simp only [List.nil_append, List.cons_append, List.append_eq, Int.toNat_natCast] at h6
        have S6 := Lib.hid h6; clear h6
        go_wp2_with fail
        refine (Bytes_st EWL.out (by omega) (RdV.of_blk (S6.out.blk (t := 23) (c := cellsV e16 (ws x)) (by simp [row, cellsV, e16]))) (ws_w16 H8.out)).mono ?_
        rintro e w7 ⟨v6, G6, rfl, hg6, hh⟩
        have h7 := S6.out.call hh; clear hh S6
        try simp only [List.nil_append, List.cons_append, List.append_eq, Int.toNat_natCast] at h7
        rw [EB.out] at hg6; obtain ⟨A6, c6, rfl⟩ := hg6.shape; rw [HL.out] at hg6 ⊢; have HG6 := Lib.hid hg6; clear hg6
        have S7 := Lib.hid h7; clear h7
        go_wp2_with fail
        refine (equal_st HL.out (by omega) (HG6.out.read S7.out (fun e he => by simp [he])) (S7.out.ext HR.out)).mono ?_
        rintro e w8 ⟨rfl, hh⟩
        have h8 := S7.out.call hh; clear hh S7
        try simp only [List.nil_append, List.cons_append, List.append_eq, Int.toNat_natCast] at h8
        have S8 := Lib.hid h8; clear h8
        go_wp2_with fail
        refine (Bytes_st HUL.out (by omega) (S8.out.extV HUR.out) HU16.out).mono ?_
        rintro e w9 ⟨v7, G7, rfl, hg7, hh⟩
        have h9 := S8.out.call hh; clear hh S8
        try simp only [List.nil_append, List.cons_append, List.append_eq, Int.toNat_natCast] at h9
        obtain ⟨A7, c7, rfl⟩ := hg7.shape; rw [bs_length, HUL.out] at hg7 ⊢; have HG7 := Lib.hid hg7; clear hg7
        have S9 := Lib.hid h9; clear h9
        go_wp2_with fail
        refine (Words_st (by rw [bs_length, HUL.out]) (by omega) (by omega) (HG7.out.read S9.out (fun e he => by simp [he])) (bs_b8 HU16.out)).mono ?_
        rintro e w10 ⟨ub, rfl, hh⟩
        have h10 := S9.out.call hh; clear hh S9
        try simp only [List.nil_append, List.cons_append, List.append_eq, Int.toNat_natCast] at h10
        rw [EW.out] at h10
        have S10 := Lib.hid h10; clear h10
        trace_state
        go_wp2_with fail
        refine (alike_st HUL.out (by omega) (S10.out.rdV mem0) (S10.out.extV HUR.out)).mono ?_
        rintro e w11 ⟨rfl, hh⟩
        have h11 := S10.out.call hh; clear hh S10
        try simp only [List.nil_append, List.cons_append, List.append_eq, Int.toNat_natCast] at h11
        have S11 := Lib.hid h11; clear h11
        go_wp2_with fail
        go_ret
        exact ⟨rfl, S11.out.below⟩
  · have HO := Lib.hid ho
    have EW := Lib.hid (ws_bs HU16.out)
    have g1 : ((n : Int) % 2 == 1) = true := by rw [beq_iff_eq]; omega
    have g2 : ((n : Int).tmod 2 == 1) = true := by rw [Int.tmod_eq_emod_of_nonneg (by omega)]; exact g1
    go_enter Try.func8, Try.ntmps8
    go_wp2_with fail
    refine (awake_st _).mono ?_
    rintro e w1 ⟨k, rfl, hh⟩
    have h1 := S0.out.call hh; clear hh S0
    try simp only [List.nil_append, List.cons_append, List.append_eq, Int.toNat_natCast] at h1
    have S1 := Lib.hid h1; clear h1
    go_wp2_with fail
    refine (words_odd _ _ _ _ HO.out).mono ?_
    rintro e _ ⟨rfl, rfl⟩
    go_wp2_with fail
    refine (split_odd _ _ _ _ HO.out).mono ?_
    rintro e _ ⟨rfl, rfl⟩
    go_wp2_with fail
    go_ret
    exact ⟨rfl, S1.out.below⟩

end Go.Proofs.Ytadgjmlkpnifoaa.Pq
