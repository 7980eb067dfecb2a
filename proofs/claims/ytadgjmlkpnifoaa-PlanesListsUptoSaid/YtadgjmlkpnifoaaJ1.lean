/- Layer 8: plain words on shards; the law PlanesSums. -/
import Derived.Test.YtadgjmlkpnifoaaH8
import Derived.Test.YtadgjmlkpnifoaaOb
namespace Go.Proofs.Ytadgjmlkpnifoaa.Pq
set_option linter.unusedSimpArgs false
set_option linter.unusedVariables false
open Go Go.RowKit Go.Proofs.Ytadgjmlkpnifoaa Go.Proofs.Ytadgjmlkpnifoaa.Mm Go.Proofs.Ytadgjmlkpnifoaa.Gh Go.Proofs.Ytadgjmlkpnifoaa.Wr Go.Proofs.Ytadgjmlkpnifoaa.St

theorem ext8 {l k : List Nat} (h : l.length = k.length) (hh : ∀ i, i < l.length → l.getD i 0 = k.getD i 0) : l = k := by
  apply List.ext_getElem?
  intro i
  by_cases hi : i < l.length
  · have := hh i hi
    simp only [List.getD_eq_getElem?_getD, List.getElem?_eq_getElem hi, List.getElem?_eq_getElem (show i < k.length by omega), Option.getD_some] at this ⊢
    rw [this]
  · rw [List.getElem?_eq_none (by omega), List.getElem?_eq_none (by omega)]
theorem half_xor (p q i : Nat) : half (p ^^^ q) i = half p i ^^^ half q i := by
  unfold half
  split
  · exact Nat.xor_mod_two_pow (a := p) (b := q) (n := 8)
  · have h := Nat.shiftRight_xor_distrib (a := p) (b := q) (i := 8)
    simpa [Nat.shiftRight_eq_div_pow] using h
theorem pair_xor {a1 a2 b1 b2 : Nat} (h1 : a1 < 256) (h2 : a2 < 256) : (a1 ^^^ a2) + 256 * (b1 ^^^ b2) = (a1 + 256 * b1) ^^^ (a2 + 256 * b2) := by
  have h3 : a1 ^^^ a2 < 2 ^ 8 := Nat.xor_lt_two_pow (n := 8) h1 h2
  apply Nat.eq_of_testBit_eq
  intro i
  rw [show (a1 ^^^ a2) + 256 * (b1 ^^^ b2) = 2 ^ 8 * (b1 ^^^ b2) + (a1 ^^^ a2) by omega, Nat.testBit_two_pow_mul_add _ h3, Nat.testBit_xor (a1 + 256 * b1),
    show a1 + 256 * b1 = 2 ^ 8 * b1 + a1 by omega, show a2 + 256 * b2 = 2 ^ 8 * b2 + a2 by omega, Nat.testBit_two_pow_mul_add _ (show a1 < 2 ^ 8 from h1), Nat.testBit_two_pow_mul_add _ (show a2 < 2 ^ 8 from h2)]
  split
  · rw [Nat.testBit_xor]
  · rw [Nat.testBit_xor]
theorem wd_xs {x y : List Nat} (hx : B8 x) (hy : B8 y) (h : x.length = y.length) {t : Nat} (ht : 2 * t + 1 < y.length) : wd (xs x y) t = wd x t ^^^ wd y t := by
  unfold wd
  rw [xs_get (by omega), xs_get (by omega), pair_xor (get256 hx _) (get256 hy _)]
theorem pm_xs {c : Nat} {x y : List Nat} (hx : B8 x) (hy : B8 y) (h : x.length = y.length) (h2 : y.length % 2 = 0) : pm c (xs x y) = xs (pm c x) (pm c y) := by
  apply ext8
  · rw [pm_length, xs_length, xs_length, pm_length]
  · intro i hi
    rw [pm_length, xs_length] at hi
    rw [pm_get (by rw [xs_length]; exact hi), xs_get (by rw [pm_length]; exact hi), pm_get (by omega), pm_get hi, wd_xs hx hy h (by omega), gm_right, half_xor]
theorem pm_left {c d : Nat} (hc : c < 65536) (hd : d < 65536) (x : List Nat) : pm (c ^^^ d) x = xs (pm c x) (pm d x) := by
  apply ext8
  · rw [pm_length, xs_length, pm_length]
  · intro i hi
    rw [pm_length] at hi
    rw [pm_get hi, xs_get (by rw [pm_length]; exact hi), pm_get hi, pm_get hi, gm_left _ hc hd, half_xor]
theorem xs_twice {a b : List Nat} (h : a.length = b.length) : xs (xs a b) b = a := by
  apply ext8
  · rw [xs_length, h]
  · intro i hi
    rw [xs_length] at hi
    rw [xs_get hi, xs_get hi, Nat.xor_assoc, Nat.xor_self, Nat.xor_zero]
theorem rd_take {w : World} {A : Option Addr} {l : List Nat} (r : Rd w A l) (n : Nat) : Rd w A (l.take n) := by
  intro h
  rw [List.length_take] at h
  obtain ⟨b, o, rfl, hc⟩ := r (by omega)
  refine ⟨b, o, rfl, fun i hi => ?_⟩
  rw [List.length_take] at hi
  rw [hc i (by omega)]
  simp [show i < n by omega]
theorem zs_b8 (n : Nat) : B8 (zs n) := B8.zeros n
theorem xs_fill {x y : List Nat} {q : Nat} (hx : q ≤ x.length) (hy : q ≤ y.length) : fill (fun i => x.getD i 0 ^^^ y.getD i 0) q q = xs (x.take q) (y.take q) := by
  apply ext8
  · rw [fill_length, xs_length, List.length_take]; omega
  · intro i hi
    rw [fill_length] at hi
    rw [xs_get (by rw [List.length_take]; omega)]
    simp [fill, hi]

set_option maxRecDepth 100000 in
set_option maxHeartbeats 4000000 in
theorem sums_walk (c d : Nat) (A : Option Addr) (n1 c1 : Nat) (x : List Nat) (A2 : Option Addr) (n2 c2 : Nat) (y : List Nat) (w : World) (hc : c < 65536) (hd : d < 65536) (h : (Kk.kSlice Kk.kByte 1).ok w.heap.size w [.slice A n1 c1] x) (h2 : (Kk.kSlice Kk.kByte 1).ok w.heap.size w [.slice A2 n2 c2] y) :
    Calls Try.prog 4 #[.int .u16 (c : Int), .int .u16 (d : Int), .slice A n1 c1, .slice A2 n2 c2] w fun e w' => e = .returned (.bool true) ∧ Below w.heap.size w w' := by
  obtain ⟨hl1, hn1, hcp1, hr1, h81, _⟩ := open_bytes h
  obtain ⟨hl2, hn2, hcp2, hr2, h82, _⟩ := open_bytes h2
  obtain ⟨q, hq⟩ : ∃ q, q = min n1 n2 / 2 * 2 := ⟨_, rfl⟩
  have q1 : q ≤ n1 := by omega
  have q2 : q ≤ n2 := by omega
  have Q2 := Lib.hid (show q % 2 = 0 by omega)
  have HX : Hid ((x.take q).length = q) := Lib.hid (by rw [List.length_take]; omega)
  have HY : Hid ((y.take q).length = q) := Lib.hid (by rw [List.length_take]; omega)
  have HL1 := Lib.hid hl1; have HR1 := Lib.hid (rd_take hr1 q); have H81 := Lib.hid (h81.take q)
  have HL2 := Lib.hid hl2; have HR2 := Lib.hid (rd_take hr2 q); have H82 := Lib.hid (h82.take q)
  have RX := Lib.hid hr1; have RY := Lib.hid hr2; have X8 := Lib.hid h81; have Y8 := Lib.hid h82
  have qc1 : q ≤ c1 := by omega
  have qc2 : q ≤ c2 := by omega
  have qb : q ≤ 140737488351232 := by omega
  have v1 : Int.tdiv (min (n1 : Int) (n2 : Int)) 2 * 2 = (q : Int) := by rw [Int.tdiv_eq_ediv_of_nonneg (by omega)]; omega
  have v2 : min (n1 : Int) (n2 : Int) / 2 * 2 = (q : Int) := by omega
  clear h h2 hl1 hr1 h81 hl2 hr2 h82 hq
  have S0 := Lib.hid (St.start w)
  go_enter Try.func4, Try.ntmps4
  go_wp2_with fail
  refine (awake_st _).mono ?_
  rintro e w1 ⟨p, rfl, hh⟩
  have h1 := S0.out.call hh; clear hh S0
  try simp only [List.nil_append, List.cons_append, List.append_eq, Int.toNat_natCast] at h1
  have S1 := Lib.hid h1; clear h1
  go_wp2_with (first
    | ((with_reducible refine at_slot (N := 26) rfl ?_); refine make_law rfl 24 5 _ .u8 (q) 1 rfl rfl Try.underlying24 info_u8 (by omega) (by omega) S1.out ?_; intro ba w2 h2; (try simp only [World.size_alloc, List.nil_append, List.cons_append, List.append_eq] at h2); have S2 := Lib.hid h2; clear h2 S1)
    | ((with_reducible refine at_slot (N := 28) rfl ?_); refine make_law rfl 24 5 _ .u8 (q) 1 rfl rfl Try.underlying24 info_u8 (by omega) (by omega) S2.out ?_; intro bb w3 h3; (try simp only [World.size_alloc, List.nil_append, List.cons_append, List.append_eq] at h3); have S3 := Lib.hid h3; clear h3 S2)
    | ((with_reducible refine at_slot (N := 30) rfl ?_); refine make_law rfl 24 5 _ .u8 (q) 1 rfl rfl Try.underlying24 info_u8 (by omega) (by omega) S3.out ?_; intro bs w4 h4; (try simp only [World.size_alloc, List.nil_append, List.cons_append, List.append_eq] at h4); have S4 := Lib.hid h4; clear h4 S3))
  clear v1 v2
  have H4 : Hid (St w w4 [] [bt bs (fill (fun i => x.getD i 0 ^^^ y.getD i 0) q 0), bt bb (zs q), bt ba (zs q)]) := Lib.hid (by have := S4.out; rw [fill_zero]; exact this)
  clear S4
  go_loopw [14] (fun vi wr => ∃ i : Nat, i ≤ q ∧ vi = .int .i64 i ∧ St w wr [] [bt bs (fill (fun i => x.getD i 0 ^^^ y.getD i 0) q i), bt bb (zs q), bt ba (zs q)]) (fun vi _ => q - (intOf vi).toNat)
  case atStart => exact ⟨0, by omega, rfl, H4.out⟩
  case round =>
    clear H4
    obtain ⟨i, hi, rfl, hs⟩ := hrel
    have S5 := Lib.hid hs; clear hs
    by_cases hlt : i < q
    · obtain ⟨b1, o1, e1, k1⟩ := (S5.out.ext RX.out) (by rw [HL1.out]; omega)
      obtain ⟨b2, o2, e2, k2⟩ := (S5.out.ext RY.out) (by rw [HL2.out]; omega)
      subst e1 e2
      have m1 := k1 i (by rw [HL1.out]; omega)
      have m2 := k2 i (by rw [HL2.out]; omega)
      have x1 := X8.out.get (i := i) (by rw [HL1.out]; omega)
      have x2 := Y8.out.get (i := i) (by rw [HL2.out]; omega)
      have m3 := (S5.out.blk mem0).cellRow (i := i) (by rw [fill_length]; exact hlt)
      have f3 := (S5.out.blk mem0).free (i := i)
      have HF := Lib.hid (fill_step (f := fun i => x.getD i 0 ^^^ y.getD i 0) hlt)
      generalize (fill (fun i => x.getD i 0 ^^^ y.getD i 0) q i).getD i 0 = z at *
      obtain ⟨y1, hy1⟩ : ∃ y1, Hid (x.getD i 0 = y1) := ⟨_, Lib.hid rfl⟩
      obtain ⟨y2, hy2⟩ : ∃ y2, Hid (y.getD i 0 = y2) := ⟨_, Lib.hid rfl⟩
      rw [hy1.out] at m1 x1
      rw [hy2.out] at m2 x2
      have HF' : Hid ((fill (fun i => x.getD i 0 ^^^ y.getD i 0) q i).set i (y1 ^^^ y2) = fill (fun i => x.getD i 0 ^^^ y.getD i 0) q (i + 1)) := Lib.hid (by rw [← HF.out, hy1.out, hy2.out])
      have ex : Go.bits .xor .u8 (y1 : Int) (y2 : Int) = ((y1 ^^^ y2 : Nat) : Int) := Bt.xor8 x1 x2
      have i1 : (i : Int) < (n1 : Int) := by omega
      have i2 : (i : Int) < (n2 : Int) := by omega
      have i3 : (i : Int) < (q : Int) := by omega
      have i4 : i < n1 := by omega
      have i5 : i < n2 := by omega
      clear k1 k2 HF
      go_wp2_with fail
      refine Qt.quiet_tail 12 (by kernel_rfl) (by kernel_rfl) ?_
      simp only [List.take_succ_cons, List.take_zero, List.drop_succ_cons, List.drop_zero]
      repeat (quiet_step (fail))
      refine wpQuiet_nil ?_
      rintro _ ⟨nq, rfl⟩
      go_wp2_with fail
      have S6 := Lib.hid ((S5.out.drewN (n := nq)).setRow (N1 := []) i (y1 ^^^ y2))
      rw [HF'.out] at S6
      refine ⟨⟨i + 1, by omega, by simp, S6.out⟩, ?_⟩
      simp [intOf]; omega
    · obtain rfl : i = q := by omega
      rw [xs_fill (by rw [HL1.out]; exact q1) (by rw [HL2.out]; exact q2)] at S5
      obtain ⟨X, hX⟩ : ∃ X, Hid (x.take i = X) := ⟨_, Lib.hid rfl⟩
      obtain ⟨Y, hY⟩ : ∃ Y, Hid (y.take i = Y) := ⟨_, Lib.hid rfl⟩
      rw [hX.out] at S5 HX HR1 H81
      rw [hY.out] at S5 HY HR2 H82
      have HXY : Hid ((xs X Y).length = i) := Lib.hid (by rw [xs_length, HY.out])
      have BXY := Lib.hid (xs_b8 H81.out H82.out)
      have PX : Hid ((pm c X).length = i) := Lib.hid (by rw [pm_length, HX.out])
      have PY : Hid ((pm c Y).length = i) := Lib.hid (by rw [pm_length, HY.out])
      have PXY : Hid ((pm c (xs X Y)).length = i) := Lib.hid (by rw [pm_length, HXY.out])
      have PD : Hid ((xs (pm c X) (pm d X)).length = i) := Lib.hid (by rw [xs_length, pm_length, HX.out])
      have BX := Lib.hid (pm_b8 hc X)
      have BY := Lib.hid (pm_b8 hc Y)
      have BXY2 := Lib.hid (pm_b8 hc (xs X Y))
      have BD := Lib.hid (pm_b8 hd X)
      have BXD := Lib.hid (xs_b8 BX.out BD.out)
      have E1 := Lib.hid (pm_xs (c := c) H81.out H82.out (by rw [HX.out, HY.out]) (by rw [HY.out]; exact Q2.out))
      have E2 := Lib.hid (pm_left hc hd X)
      have hx16 : c ^^^ d < 65536 := xor_lt hc hd
      have ex : Go.bits .xor .u16 (c : Int) (d : Int) = ((c ^^^ d : Nat) : Int) := Bt.xor16 hc hd
      have E3 := Lib.hid (xs_twice (a := Y) (b := pm c X) (by rw [HY.out, PX.out]))
      have BYX := Lib.hid (xs_b8 H82.out BX.out)
      have PYX : Hid ((xs Y (pm c X)).length = i) := Lib.hid (by rw [xs_length, PX.out])
      have hi3 : i ≤ 281474976710656 := by omega
      have s1 : (i : Int) ≤ (c1 : Int) := by omega
      have s2 : (i : Int) ≤ (c2 : Int) := by omega
      go_wp2_with fail
      refine (mul_st (by omega) (by omega) (S5.out.blk mem2) (zs_length i) HXY.out Q2.out BXY.out hi3 (Srcs.new (S5.out.rd mem0) (S5.out.ne 0 2 rfl rfl (by decide)))).mono ?_
      rintro e w6 ⟨rfl, hh⟩
      have h6 := S5.out.callN (N1 := [_, _]) hh; clear hh S5
      try simp only [List.nil_append, List.cons_append, List.append_eq, Int.toNat_natCast] at h6
      have S6 := Lib.hid h6; clear h6
      go_wp2_with fail
      refine (mul_st (by omega) (by omega) (S6.out.blk mem1) (zs_length i) HX.out Q2.out H81.out hi3 (Srcs.ext S6.out mem1 HR1.out)).mono ?_
      rintro e w7 ⟨rfl, hh⟩
      have h7 := S6.out.callN (N1 := [_]) hh; clear hh S6
      try simp only [List.nil_append, List.cons_append, List.append_eq, Int.toNat_natCast] at h7
      have S7 := Lib.hid h7; clear h7
      go_wp2_with fail
      refine (add_st (by omega) (by omega) (S7.out.blk mem1) PX.out HY.out Q2.out H82.out BX.out hi3 (Srcs.ext S7.out mem1 HR2.out)).mono ?_
      rintro e w8 ⟨rfl, hh⟩
      have h8 := S7.out.callN (N1 := [_]) hh; clear hh S7
      try simp only [List.nil_append, List.cons_append, List.append_eq, Int.toNat_natCast] at h8
      rw [← E1.out] at h8
      have S8 := Lib.hid h8; clear h8
      go_wp2_with fail
      refine (equal_st PXY.out hi3 (S8.out.rd mem2) (S8.out.rd mem1)).mono ?_
      rintro e w9 ⟨rfl, hh⟩
      have h9 := S8.out.call hh; clear hh S8
      try simp only [List.nil_append, List.cons_append, List.append_eq, Int.toNat_natCast] at h9
      have S9 := Lib.hid h9; clear h9
      go_wp2_with fail
      refine (mul_st (by omega) (by omega) (S9.out.blk mem2) PXY.out HX.out Q2.out H81.out hi3 (Srcs.ext S9.out mem2 HR1.out)).mono ?_
      rintro e w10 ⟨rfl, hh⟩
      have h10 := S9.out.callN (N1 := [_, _]) hh; clear hh S9
      try simp only [List.nil_append, List.cons_append, List.append_eq, Int.toNat_natCast] at h10
      have S10 := Lib.hid h10; clear h10
      go_wp2_with fail
      refine (add_st (by omega) (by omega) (S10.out.blk mem2) PX.out HX.out Q2.out H81.out BX.out hi3 (Srcs.ext S10.out mem2 HR1.out)).mono ?_
      rintro e w11 ⟨rfl, hh⟩
      have h11 := S10.out.callN (N1 := [_, _]) hh; clear hh S10
      try simp only [List.nil_append, List.cons_append, List.append_eq, Int.toNat_natCast] at h11
      have S11 := Lib.hid h11; clear h11
      go_wp2_with fail
      refine (mul_st (by omega) (by omega) (S11.out.blk mem1) PXY.out HX.out Q2.out H81.out hi3 (Srcs.ext S11.out mem1 HR1.out)).mono ?_
      rintro e w12 ⟨rfl, hh⟩
      have h12 := S11.out.callN (N1 := [_]) hh; clear hh S11
      try simp only [List.nil_append, List.cons_append, List.append_eq, Int.toNat_natCast] at h12
      rw [E2.out] at h12
      have S12 := Lib.hid h12; clear h12
      go_wp2_with fail
      refine (equal_st PD.out hi3 (S12.out.rd mem2) (S12.out.rd mem1)).mono ?_
      rintro e w13 ⟨rfl, hh⟩
      have h13 := S12.out.call hh; clear hh S12
      try simp only [List.nil_append, List.cons_append, List.append_eq, Int.toNat_natCast] at h13
      have S13 := Lib.hid h13; clear h13
      go_wp2_with ((with_reducible refine at_slot (N := 118) rfl ?_); refine copy_bytes (N1 := [_, _]) rfl _ _ rfl ba 0 i i _ _ S13.out rfl A2 n2 c2 rfl Y (by rw [HY.out]; show i = min n2 i; omega) (S13.out.ext HR2.out) (by rw [HY.out, PD.out]; omega) ?_; intro w14 h14; rw [wr_all _ _ (by rw [HY.out, PD.out])] at h14; (try simp only [World.size_alloc, List.nil_append, List.cons_append, List.append_eq] at h14); have S14 := Lib.hid h14; clear h14 S13)
      refine (add_st (by omega) (by omega) (S14.out.blk mem2) HY.out HX.out Q2.out H81.out H82.out hi3 (Srcs.ext S14.out mem2 HR1.out)).mono ?_
      rintro e w15 ⟨rfl, hh⟩
      have h15 := S14.out.callN (N1 := [_, _]) hh; clear hh S14
      try simp only [List.nil_append, List.cons_append, List.append_eq, Int.toNat_natCast] at h15
      have S15 := Lib.hid h15; clear h15
      go_wp2_with fail
      refine (add_st (by omega) (by omega) (S15.out.blk mem2) PYX.out HX.out Q2.out H81.out BYX.out hi3 (Srcs.ext S15.out mem2 HR1.out)).mono ?_
      rintro e w16 ⟨rfl, hh⟩
      have h16 := S15.out.callN (N1 := [_, _]) hh; clear hh S15
      try simp only [List.nil_append, List.cons_append, List.append_eq, Int.toNat_natCast] at h16
      rw [E3.out] at h16
      have S16 := Lib.hid h16; clear h16
      go_wp2_with fail
      refine (equal_st HY.out hi3 (S16.out.rd mem2) (S16.out.ext HR2.out)).mono ?_
      rintro e w17 ⟨rfl, hh⟩
      have h17 := S16.out.call hh; clear hh S16
      try simp only [List.nil_append, List.cons_append, List.append_eq, Int.toNat_natCast] at h17
      have S17 := Lib.hid h17; clear h17
      go_wp2_with fail
      go_ret
      exact ⟨rfl, S17.out.below⟩

end Go.Proofs.Ytadgjmlkpnifoaa.Pq
