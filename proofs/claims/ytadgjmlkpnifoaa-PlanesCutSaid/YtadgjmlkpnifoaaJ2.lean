/- Layer 8: the law PlanesCut. -/
import Derived.Test.YtadgjmlkpnifoaaJ1
namespace Go.Proofs.Ytadgjmlkpnifoaa.Pq
set_option linter.unusedSimpArgs false
set_option linter.unusedVariables false
open Go Go.RowKit Go.Proofs.Ytadgjmlkpnifoaa Go.Proofs.Ytadgjmlkpnifoaa.Mm Go.Proofs.Ytadgjmlkpnifoaa.Gh Go.Proofs.Ytadgjmlkpnifoaa.Wr Go.Proofs.Ytadgjmlkpnifoaa.St

theorem wd_drop (l : List Nat) (p t : Nat) : wd (l.drop (2 * p)) t = wd l (p + t) := by
  unfold wd
  simp only [List.getD_eq_getElem?_getD, List.getElem?_drop]
  rw [show 2 * p + 2 * t = 2 * (p + t) by omega, show 2 * p + (2 * t + 1) = 2 * (p + t) + 1 by omega]
theorem pm_drop {c p : Nat} {l : List Nat} (h : 2 * p ≤ l.length) : pm c (l.drop (2 * p)) = (pm c l).drop (2 * p) := by
  apply ext8
  · rw [pm_length, List.length_drop, List.length_drop, pm_length]
  · intro i hi
    rw [pm_length, List.length_drop] at hi
    rw [pm_get (by rw [List.length_drop]; exact hi), wd_drop, List.getD_eq_getElem?_getD, List.getElem?_drop, ← List.getD_eq_getElem?_getD, pm_get (by omega), show (2 * p + i) / 2 = p + i / 2 by omega]
    unfold half
    rw [show (2 * p + i) % 2 = i % 2 by omega]
theorem wd_take {l : List Nat} {p t : Nat} (h : t < p) : wd (l.take (2 * p)) t = wd l t := by
  unfold wd
  simp only [List.getD_eq_getElem?_getD, List.getElem?_take, if_pos (show 2 * t < 2 * p by omega), if_pos (show 2 * t + 1 < 2 * p by omega)]
theorem pm_take {c p : Nat} {l : List Nat} (h : 2 * p ≤ l.length) : pm c (l.take (2 * p)) = (pm c l).take (2 * p) := by
  apply ext8
  · rw [pm_length, List.length_take, List.length_take, pm_length]
  · intro i hi
    rw [pm_length, List.length_take] at hi
    rw [pm_get (by rw [List.length_take]; exact hi), wd_take (by omega), List.getD_eq_getElem?_getD, List.getElem?_take, if_pos (by omega), ← List.getD_eq_getElem?_getD, pm_get (by omega)]
theorem wr_two {D a b : List Nat} {p : Nat} (ha : a.length = p) (h : D.length = p + b.length) : Wr.wr (Wr.wr D p b) 0 a = a ++ b := by
  apply List.ext_getElem?
  intro j
  rw [wr_get _ _ _ _ (by rw [wr_length]; omega), wr_get _ _ _ _ (by omega)]
  by_cases hj : j < p
  · rw [if_pos (by omega), List.getElem?_append_left (by omega), Nat.sub_zero]
  · rw [if_neg (by omega), List.getElem?_append_right (by omega), ha]
    by_cases hj2 : j < p + b.length
    · rw [if_pos (by omega)]
    · rw [if_neg (by omega), List.getElem?_eq_none (by omega), List.getElem?_eq_none (by omega)]

set_option maxRecDepth 100000 in
set_option maxHeartbeats 4000000 in
theorem cut_walk (c : Nat) (A : Option Addr) (n cp : Nat) (x : List Nat) (at_ : Int) (w : World) (hc : c < 65536) (h : (Kk.kSlice Kk.kByte 1).ok w.heap.size w [.slice A n cp] x) (_hat : (Lit.int .i64 at_).wf = true) :
    Calls Try.prog 5 #[.int .u16 (c : Int), .slice A n cp, .int .i64 at_] w fun e w' => e = .returned (.bool true) ∧ Below w.heap.size w w' := by
  obtain ⟨hl, hn, hcp, hr, h8, _⟩ := open_bytes h
  obtain ⟨q, hq⟩ : ∃ q, n / 2 * 2 = q := ⟨_, rfl⟩
  have HQ := Lib.hid hq
  have Q2 := Lib.hid (show q % 2 = 0 by omega)
  have qn : q ≤ n := by omega
  have qc : q ≤ cp := by omega
  have qb : q ≤ 281474976710656 := by omega
  have R0 := rd_take hr q
  have B0 := h8.take q
  have L0 : (x.take q).length = q := by rw [List.length_take]; omega
  obtain ⟨X, hX⟩ : ∃ X, x.take q = X := ⟨_, rfl⟩
  rw [hX] at R0 B0 L0
  have HR := Lib.hid R0; have H8 := Lib.hid B0; have HL := Lib.hid L0
  have HPL : Hid ((pm c X).length = q) := Lib.hid (by rw [pm_length, L0])
  have HPB := Lib.hid (pm_b8 hc X)
  clear h hl hr h8 R0 B0 hX hq L0
  obtain ⟨t, ht⟩ : ∃ t, at_.tmod ((q : Int) + 1) = t := ⟨_, rfl⟩
  have t1 : -((q : Int) + 1) < t := by rw [← ht]; exact Int.lt_tmod_of_pos at_ (by omega)
  have t2 : t < (q : Int) + 1 := by rw [← ht]; exact Int.tmod_lt_of_pos at_ (by omega)
  obtain ⟨p, hp⟩ : ∃ p : Nat, (t + ((q : Int) + 1)) % ((q : Int) + 1) = p := by
    have h0 := Int.emod_nonneg (t + ((q : Int) + 1)) (b := (q : Int) + 1) (by omega)
    exact ⟨((t + ((q : Int) + 1)) % ((q : Int) + 1)).toNat, by omega⟩
  have hp1 : p ≤ q := by
    have h0 := Int.emod_lt_of_pos (t + ((q : Int) + 1)) (b := (q : Int) + 1) (by omega)
    omega
  have S0 := Lib.hid (St.start w)
  go_enter Try.func5, Try.ntmps5
  go_wp2_with fail
  refine (awake_st _).mono ?_
  rintro e w1 ⟨k, rfl, hh⟩
  have h1 := S0.out.call hh; clear hh S0
  try simp only [List.nil_append, List.cons_append, List.append_eq, Int.toNat_natCast] at h1
  have S1 := Lib.hid h1; clear h1
  go_wp2_with fail
  refine (even_st A n cp _ hcp hn).mono ?_
  rintro e _ ⟨rfl, rfl⟩
  rw [HQ.out]
  go_wp2_with (first
    | ((with_reducible refine at_slot (N := 31) rfl ?_); refine make_law rfl 24 5 _ .u8 (q) 1 rfl rfl Try.underlying24 info_u8 (by omega) (by omega) S1.out ?_; intro bw w2 h2; (try simp only [World.size_alloc, List.nil_append, List.cons_append, List.append_eq] at h2); have S2 := Lib.hid h2; clear h2 S1)
    | ((with_reducible refine at_slot (N := 34) rfl ?_); refine make_law rfl 24 5 _ .u8 (q) 1 rfl rfl Try.underlying24 info_u8 (by omega) (by omega) S2.out ?_; intro bc w3 h3; (try simp only [World.size_alloc, List.nil_append, List.cons_append, List.append_eq] at h3); have S3 := Lib.hid h3; clear h3 S2))
  clear ht hp
  go_wp2_with fail
  refine (mul_st (by omega) (by omega) (S3.out.blk mem1) (zs_length q) HL.out Q2.out H8.out qb (Srcs.ext S3.out mem1 HR.out)).mono ?_
  rintro e w4 ⟨rfl, hh⟩
  have h4 := S3.out.callN (N1 := [_]) hh; clear hh S3
  try simp only [List.nil_append, List.cons_append, List.append_eq, Int.toNat_natCast] at h4
  have S4 := Lib.hid h4; clear h4
  have p0 : (0 : Int) ≤ (p : Int) := by omega
  have p1 : (p : Int) ≤ (q : Int) := by omega
  have p2 : (p : Int) ≤ (cp : Int) := by omega
  have p3 : p ≤ cp := by omega
  rcases Nat.mod_two_eq_zero_or_one p with he | ho
  · obtain ⟨r, hr⟩ : ∃ r, p = 2 * r := ⟨p / 2, by omega⟩
    have HPR := Lib.hid hr
    have HE := Lib.hid he
    clear he hr
    by_cases hpq : p = q
    · obtain rfl : q = p := hpq.symm
      have g0 : ((q : Int) % 2 == 1) = false := by rw [beq_eq_false_iff_ne]; have := HE.out; omega
      have g1 : ((q : Int).tmod 2 == 1) = false := by rw [Int.tmod_eq_emod_of_nonneg (by omega)]; exact g0
      by_cases g2 : cp = q
      all_goals
        go_wp2_with fail
        refine Qt.quiet_tail 8 (by kernel_rfl) (by kernel_rfl) ?_
        simp only [List.take_succ_cons, List.take_zero, List.drop_succ_cons, List.drop_zero]
        repeat (quiet_step (fail))
        refine wpQuiet_nil ?_
        rintro _ ⟨n1, rfl⟩
        have S5 := Lib.hid (S4.out.drewN (n := n1)); clear S4
        go_wp2_with fail
        refine (mul_at (od := 0) (n := 0) (l := []) hc (S5.out.blk mem0) (by omega) rfl rfl (fun _ h => by simp at h) (by decide) (fun h => by simp at h)).mono ?_
        rintro e w6 ⟨rfl, hh⟩
        have h6 := S5.out.callN (N1 := []) hh; clear hh S5
        try simp only [List.nil_append, List.cons_append, List.append_eq, Int.toNat_natCast] at h6
        rw [show pm c [] = [] from rfl] at h6; simp only [Wr.wr] at h6
        have S6 := Lib.hid h6; clear h6
        go_wp2_with fail
        refine Qt.quiet_tail 8 (by kernel_rfl) (by kernel_rfl) ?_
        simp only [List.take_succ_cons, List.take_zero, List.drop_succ_cons, List.drop_zero]
        repeat (quiet_step (fail))
        refine wpQuiet_nil ?_
        rintro _ ⟨n2, rfl⟩
        have S7 := Lib.hid (S6.out.drewN (n := n2)); clear S6
        go_wp2_with fail
        refine (mul_st (by omega) (by omega) (S7.out.blk mem0) (zs_length q) HL.out Q2.out H8.out qb (Srcs.ext S7.out mem0 HR.out)).mono ?_
        rintro e w8 ⟨rfl, hh⟩
        have h8 := S7.out.callN (N1 := []) hh; clear hh S7
        try simp only [List.nil_append, List.cons_append, List.append_eq, Int.toNat_natCast] at h8
        have S8 := Lib.hid h8; clear h8
        go_wp2_with fail
        refine (equal_st HPL.out qb (S8.out.rd mem1) (S8.out.rd mem0)).mono ?_
        rintro e w9 ⟨rfl, hh⟩
        have h9 := S8.out.call hh; clear hh S8
        try simp only [List.nil_append, List.cons_append, List.append_eq, Int.toNat_natCast] at h9
        have S9 := Lib.hid h9; clear h9
        go_wp2_with fail
        go_ret
        exact ⟨rfl, S9.out.below⟩
    · have hlt : p < q := by omega
      have g0 : ((p : Int) % 2 == 1) = false := by rw [beq_eq_false_iff_ne]; have := HE.out; omega
      have g1 : ((p : Int).tmod 2 == 1) = false := by rw [Int.tmod_eq_emod_of_nonneg (by omega)]; exact g0
      have g2 : ¬ q = p := by omega
      have g3 : ¬ cp = p := by omega
      obtain ⟨bs, os, eA, k1⟩ := HR.out (by rw [HL.out]; omega)
      subst eA
      clear k1 hpq
      have RD : Hid (Rd w (some ⟨bs, os + p, none⟩) (X.drop p)) := Lib.hid (by have := Rd.piece HR.out p (q - p); rw [List.take_of_length_le (by rw [List.length_drop, HL.out]; exact Nat.le_refl _)] at this; exact this)
      have RT : Hid (Rd w (some ⟨bs, os, none⟩) (X.take p)) := Lib.hid (rd_take HR.out p)
      have ED : Hid (pm c (X.drop p) = (pm c X).drop p) := Lib.hid (by rw [HPR.out]; exact pm_drop (by rw [HL.out, ← HPR.out]; exact hp1))
      have ET : Hid (pm c (X.take p) = (pm c X).take p) := Lib.hid (by rw [HPR.out]; exact pm_take (by rw [HL.out, ← HPR.out]; exact hp1))
      have EW : Hid (Wr.wr (Wr.wr (zs q) p ((pm c X).drop p)) 0 ((pm c X).take p) = pm c X) := Lib.hid (by
        rw [wr_two (by rw [List.length_take, HPL.out]; omega) (by rw [List.length_drop, HPL.out, zs_length]; omega), List.take_append_drop])
      have LD : Hid ((X.drop p).length = q - p) := Lib.hid (by rw [List.length_drop, HL.out])
      have LT : Hid ((X.take p).length = p) := Lib.hid (by rw [List.length_take, HL.out]; omega)
      have DE : Hid ((q - p) % 2 = 0) := Lib.hid (by have := HE.out; have := Q2.out; omega)
      go_wp2_with fail
      refine Qt.quiet_tail 8 (by kernel_rfl) (by kernel_rfl) ?_
      simp only [List.take_succ_cons, List.take_zero, List.drop_succ_cons, List.drop_zero]
      repeat (quiet_step (fail))
      refine wpQuiet_nil ?_
      rintro _ ⟨n1, rfl⟩
      have S5 := Lib.hid (S4.out.drewN (n := n1)); clear S4
      go_wp2_with fail
      refine (mul_at (od := p) (n := q - p) hc (S5.out.blk mem0) (by rw [zs_length]; omega) LD.out DE.out (H8.out.drop p) (by omega) (Srcs.ext S5.out mem0 RD.out)).mono ?_
      rintro e w6 ⟨rfl, hh⟩
      have h6 := S5.out.callN (N1 := []) hh; clear hh S5
      try simp only [List.nil_append, List.cons_append, List.append_eq, Int.toNat_natCast] at h6
      rw [ED.out] at h6
      have S6 := Lib.hid h6; clear h6
      go_wp2_with fail
      refine Qt.quiet_tail 8 (by kernel_rfl) (by kernel_rfl) ?_
      simp only [List.take_succ_cons, List.take_zero, List.drop_succ_cons, List.drop_zero]
      repeat (quiet_step (fail))
      refine wpQuiet_nil ?_
      rintro _ ⟨n2, rfl⟩
      have S7 := Lib.hid (S6.out.drewN (n := n2)); clear S6
      go_wp2_with fail
      refine (mul_at (od := 0) (n := p) hc (S7.out.blk mem0) (by rw [wr_length, zs_length]; omega) LT.out HE.out (H8.out.take p) (by omega) (Srcs.ext S7.out mem0 RT.out)).mono ?_
      rintro e w8 ⟨rfl, hh⟩
      have h8 := S7.out.callN (N1 := []) hh; clear hh S7
      try simp only [List.nil_append, List.cons_append, List.append_eq, Int.toNat_natCast] at h8
      rw [ET.out, EW.out] at h8
      have S8 := Lib.hid h8; clear h8
      go_wp2_with fail
      refine (equal_st HPL.out qb (S8.out.rd mem1) (S8.out.rd mem0)).mono ?_
      rintro e w9 ⟨rfl, hh⟩
      have h9 := S8.out.call hh; clear hh S8
      try simp only [List.nil_append, List.cons_append, List.append_eq, Int.toNat_natCast] at h9
      have S9 := Lib.hid h9; clear h9
      go_wp2_with fail
      go_ret
      exact ⟨rfl, S9.out.below⟩
  · have HOd := Lib.hid ho
    have hlt : p < q := by have := Q2.out; omega
    have g0 : ((p : Int) % 2 == 1) = true := by rw [beq_iff_eq]; omega
    have g1 : ((p : Int).tmod 2 == 1) = true := by rw [Int.tmod_eq_emod_of_nonneg (by omega)]; exact g0
    have g2 : ¬ q = p := by omega
    have g3 : ¬ cp = p := by omega
    have DO : Hid ((q - p) % 2 = 1) := Lib.hid (by have := Q2.out; omega)
    clear ho
    obtain ⟨bs, os, eA, k1⟩ := HR.out (by rw [HL.out]; omega)
    subst eA
    clear k1
    go_wp2_with fail
    refine Qt.quiet_tail 8 (by kernel_rfl) (by kernel_rfl) ?_
    simp only [List.take_succ_cons, List.take_zero, List.drop_succ_cons, List.drop_zero]
    repeat (quiet_step (fail))
    refine wpQuiet_nil ?_
    rintro _ ⟨n1, rfl⟩
    have S5 := Lib.hid (S4.out.drewN (n := n1)); clear S4
    go_wp2_with fail
    refine (mul_odd _ _ _ _ _ _ _ _ DO.out).mono ?_
    rintro e _ ⟨rfl, rfl⟩
    go_wp2_with fail
    refine Qt.quiet_tail 8 (by kernel_rfl) (by kernel_rfl) ?_
    simp only [List.take_succ_cons, List.take_zero, List.drop_succ_cons, List.drop_zero]
    repeat (quiet_step (fail))
    refine wpQuiet_nil ?_
    rintro _ ⟨n2, rfl⟩
    have h7 := S5.out.drewN (n := n2); rw [World.drewN_drewN] at h7; have S7 := Lib.hid h7; clear h7 S5
    go_wp2_with fail
    refine (mul_odd _ _ _ _ _ _ _ _ HOd.out).mono ?_
    rintro e _ ⟨rfl, rfl⟩
    go_wp2_with ((with_reducible refine at_slot (N := 72) rfl ?_); refine evg rfl (make_zs 24 5 _ _ .u8 .i64 .i64 q q 1 rfl rfl rfl Try.underlying24 info_u8 (Nat.le_refl _) (by omega) (by omega)) ?_; have h8 := S7.out.alloc 5 (row .u8 (zs q)); (try simp only [World.size_alloc, List.nil_append, List.cons_append, List.append_eq] at h8); have S8 := Lib.hid h8; clear h8 S7)
    refine (equal_st (zs_length q) qb (S8.out.rd mem1) (S8.out.rd mem0)).mono ?_
    rintro e w9 ⟨rfl, hh⟩
    have h9 := S8.out.call hh; clear hh S8
    try simp only [List.nil_append, List.cons_append, List.append_eq, Int.toNat_natCast] at h9
    have S9 := Lib.hid h9; clear h9
    go_wp2_with fail
    go_ret
    exact ⟨rfl, S9.out.below⟩

end Go.Proofs.Ytadgjmlkpnifoaa.Pq
