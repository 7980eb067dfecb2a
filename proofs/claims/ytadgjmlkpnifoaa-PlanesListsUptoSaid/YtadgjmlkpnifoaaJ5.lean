/- Layer 8: the law PlanesScalars. -/
import Derived.Test.YtadgjmlkpnifoaaJ1
import Derived.Test.YtadgjmlkpnifoaaQs
import Derived.Deep.DeepMust
namespace Go.Proofs.Ytadgjmlkpnifoaa.Pq
set_option linter.unusedSimpArgs false
set_option linter.unusedVariables false
open Go Go.RowKit Go.Proofs.Ytadgjmlkpnifoaa Go.Proofs.Ytadgjmlkpnifoaa.Mm Go.Proofs.Ytadgjmlkpnifoaa.Gh Go.Proofs.Ytadgjmlkpnifoaa.Wr Go.Proofs.Ytadgjmlkpnifoaa.St

/-- Three more, as a byte. -/
def a3 (v : Nat) : Nat := (v + 3) % 256
theorem a3_lt (v : Nat) : a3 v < 256 := Nat.mod_lt _ (by decide)
theorem map_a3 (l : List Nat) : B8 (l.map a3) := by
  intro x hx
  obtain ⟨y, _, rfl⟩ := List.mem_map.1 hx
  exact a3_lt y
theorem map_get {l : List Nat} {i : Nat} (f : Nat → Nat) (h : i < l.length) : (l.map f).getD i 0 = f (l.getD i 0) := by simp [h]
theorem set_get {l : List Nat} {i j z : Nat} (h : i < l.length) : (l.set i z).getD j 0 = if i = j then z else l.getD j 0 := by
  rw [List.getD_eq_getElem?_getD, List.getElem?_set]
  by_cases hij : i = j
  · subst hij; rw [if_pos rfl, if_pos h, if_pos rfl]; rfl
  · rw [if_neg hij, if_neg hij, ← List.getD_eq_getElem?_getD]
theorem take_of {D x : List Nat} {n : Nat} (hn : n ≤ D.length) (hx : x.length = n) (h : ∀ j, j < n → D.getD j 0 = x.getD j 0) : D.take n = x := by
  apply ext8
  · rw [List.length_take]; omega
  · intro j hj
    rw [List.length_take] at hj
    rw [← h j (by omega), List.getD_eq_getElem?_getD, List.getElem?_take_of_lt (by omega), ← List.getD_eq_getElem?_getD]
theorem pm_even {c t : Nat} {l : List Nat} (h : 2 * t < l.length) : (pm c l).getD (2 * t) 0 = gm c (wd l t) % 256 := by
  rw [pm_get h, half, if_pos (by omega), show 2 * t / 2 = t by omega]
theorem pm_odd' {c t : Nat} {l : List Nat} (h : 2 * t + 1 < l.length) : (pm c l).getD (2 * t + 1) 0 = gm c (wd l t) / 256 := by
  rw [pm_get h, half, if_neg (by omega), show (2 * t + 1) / 2 = t by omega]
theorem zs_getD (n i : Nat) : (zs n).getD i 0 = 0 := by
  by_cases h : i < n
  · simp [zs, h]
  · simp [zs, h]
theorem xs_self (l : List Nat) : xs l l = zs l.length := by
  apply ext8
  · rw [xs_length, zs_length]
  · intro i hi
    rw [xs_length] at hi
    rw [xs_get hi, Nat.xor_self, zs_getD]
theorem xs_zs {n : Nat} {l : List Nat} (h : l.length = n) : xs (zs n) l = l := by
  apply ext8
  · rw [xs_length]
  · intro i hi
    rw [xs_length] at hi
    rw [xs_get hi, zs_getD, Nat.zero_xor]
theorem cell_drew {w wq : World} {n : Nat} {a : Addr} {v : Value} (h : w.drewN n = wq) (hc : w.cell? a = some v) : wq.cell? a = some v := by subst h; exact hc
theorem frozen_drew {w wq : World} {n : Nat} {a : Addr} {v : Bool} (h : w.drewN n = wq) (hc : w.frozen? a = v) : wq.frozen? a = v := by subst h; exact hc

set_option maxRecDepth 100000 in
set_option maxHeartbeats 4000000 in
theorem again_st {p : Addr} {c : Nat} {A : Option Addr} {n cp : Nat} {x : List Nat} {w : World} (hc : c < 65536) (hx : x.length = n) (h2 : n % 2 = 0) (hn : n ≤ 140737488351232) (hr : Rd w A x) (h8 : B8 x) :
    Calls Try.prog 17 #[.pointer (some p), .int .u16 c, .slice A n cp] w fun e w' => e = .returned (.bool true) ∧ St w w' [] [] := by
  have HN := Lib.hid hx; have HR := Lib.hid hr; have H8 := Lib.hid h8; have HE := Lib.hid h2
  clear hx hr h8
  obtain ⟨q, hq⟩ : ∃ q, n = 2 * q := ⟨n / 2, by omega⟩
  have HQ := Lib.hid hq
  clear hq h2
  have hn3 : n ≤ 281474976710656 := by omega
  have S0 := Lib.hid (St.start w)
  have HZ : Hid ((zs n).length = n) := Lib.hid (zs_length n)
  have HM1 : Hid ((pm c x).length = n) := Lib.hid (by rw [pm_length, HN.out])
  have H3N : Hid ((x.map a3).length = n) := Lib.hid (by rw [List.length_map, HN.out])
  have HM3 : Hid ((pm c (x.map a3)).length = n) := Lib.hid (by rw [pm_length, H3N.out])
  have m8c : Hid (∀ l : List Nat, B8 (pm c l)) := Lib.hid (fun l => pm_b8 hc l)
  go_enter Try.func17, Try.ntmps17
  go_wp2_with (first
    | ((with_reducible refine at_slot (N := 18) rfl ?_); refine ev rfl (bslice_run _ 5 0 _ (row .u8 []) rfl (fun _ => by kernel_rfl)) ?_; have h1 := S0.out.alloc 5 (row .u8 []); (try simp only [World.size_alloc, List.nil_append, List.cons_append, List.append_eq] at h1); have S1 := Lib.hid h1; clear h1 S0)
    | ((with_reducible refine at_slot (N := 20) rfl ?_); refine append_clone rfl _ _ rfl w.heap.size rfl S1.out A n cp x rfl HN.out (S1.out.ext HR.out) H8.out (by omega) ?_; intro sb D w2 q1 q2 q3 q4 h2; have Q3 := Lib.hid q3; have Q4 := Lib.hid q4; clear q3 q4; (try simp only [World.size_alloc, List.nil_append, List.cons_append, List.append_eq] at h2); have S2 := Lib.hid h2; clear h2 S1)
    | ((with_reducible refine at_slot (N := 24) rfl ?_); refine make_law rfl 24 5 _ .u8 (n) 1 rfl rfl Try.underlying24 info_u8 (by omega) (by omega) S2.out ?_; intro ab w3 h3; (try simp only [World.size_alloc, List.nil_append, List.cons_append, List.append_eq] at h3); have S3 := Lib.hid h3; clear h3 S2)
    | ((with_reducible refine at_slot (N := 26) rfl ?_); refine make_law rfl 24 5 _ .u8 (n) 1 rfl rfl Try.underlying24 info_u8 (by omega) (by omega) S3.out ?_; intro bb w4 h4; (try simp only [World.size_alloc, List.nil_append, List.cons_append, List.append_eq] at h4); have S4 := Lib.hid h4; clear h4 S3)
    | ((with_reducible refine at_slot (N := 28) rfl ?_); refine make_law rfl 24 5 _ .u8 (n) 1 rfl rfl Try.underlying24 info_u8 (by omega) (by omega) S4.out ?_; intro db w5 h5; (try simp only [World.size_alloc, List.nil_append, List.cons_append, List.append_eq] at h5); have S5 := Lib.hid h5; clear h5 S4)
    | ((with_reducible refine at_slot (N := 30) rfl ?_); refine make_law rfl 24 5 _ .u8 (n) 1 rfl rfl Try.underlying24 info_u8 (by omega) (by omega) S5.out ?_; intro eb w6 h6; (try simp only [World.size_alloc, List.nil_append, List.cons_append, List.append_eq] at h6); have S6 := Lib.hid h6; clear h6 S5))
  refine (mul_st (by omega) (by omega) (S6.out.blk mem3) HZ.out HN.out HE.out H8.out hn3 (Srcs.new (S6.out.rdTake mem4 Q4.out) (S6.out.ne 4 3 rfl rfl (by decide)))).mono ?_
  rintro e w7 ⟨rfl, hh⟩
  have h7 := S6.out.callN (N1 := [_, _, _]) hh; clear hh S6
  try simp only [List.nil_append, List.cons_append, List.append_eq, Int.toNat_natCast] at h7
  have S7 := Lib.hid h7; clear h7
  go_wp2_with fail
  refine (add_st (by omega) (by omega) (S7.out.blk mem3) HM1.out HN.out HE.out H8.out (m8c.out _) hn3 (Srcs.new (S7.out.rdTake mem4 Q4.out) (S7.out.ne 4 3 rfl rfl (by decide)))).mono ?_
  rintro e w8 ⟨rfl, hh⟩
  have h8 := S7.out.callN (N1 := [_, _, _]) hh; clear hh S7
  try simp only [List.nil_append, List.cons_append, List.append_eq, Int.toNat_natCast] at h8
  rw [xs_self, HM1.out] at h8
  have S8 := Lib.hid h8; clear h8
  go_wp2_with fail
  refine (mul_st (by omega) (by omega) (S8.out.blk mem2) HZ.out HN.out HE.out H8.out hn3 (Srcs.new (S8.out.rdTake mem4 Q4.out) (S8.out.ne 4 2 rfl rfl (by decide)))).mono ?_
  rintro e w9 ⟨rfl, hh⟩
  have h9 := S8.out.callN (N1 := [_, _]) hh; clear hh S8
  try simp only [List.nil_append, List.cons_append, List.append_eq, Int.toNat_natCast] at h9
  have S9 := Lib.hid h9; clear h9
  go_wp2_with ((with_reducible refine at_slot (N := 56) rfl ?_); refine evg rfl (make_zs 24 5 _ _ .u8 .i64 .i64 n n 1 rfl rfl rfl Try.underlying24 info_u8 (Nat.le_refl _) (by omega) (by omega)) ?_; have h10 := S9.out.alloc 5 (row .u8 (zs n)); (try simp only [World.size_alloc, List.nil_append, List.cons_append, List.append_eq] at h10); have S10 := Lib.hid h10; clear h10 S9)
  refine (equal_st HZ.out hn3 (S10.out.rd mem4) (S10.out.rd mem0)).mono ?_
  rintro e w11 ⟨rfl, hh⟩
  have h11 := S10.out.call hh; clear hh S10
  try simp only [List.nil_append, List.cons_append, List.append_eq, Int.toNat_natCast] at h11
  have S11 := Lib.hid h11; clear h11
  have S12 := Lib.hid (S11.out.drop (.cons _ (.cons_cons _ (.cons_cons _ (.cons_cons _ (.cons_cons _ (.cons_cons _ (List.Sublist.refl _)))))))); clear S11
  go_wp2_with fail
  have hDn : n ≤ D.length := q1
  have hg1 : ∀ j, j < n → D.getD j 0 = x.getD j 0 := fun j hj => getD_take Q4.out (by rw [HN.out]; exact hj)
  have H9 : Hid (∃ Ds : List Nat, Ds.length = D.length ∧ (∀ j, j < 0 → Ds.getD j 0 = a3 (x.getD j 0)) ∧ (∀ j, 0 ≤ j → j < n → Ds.getD j 0 = x.getD j 0) ∧ St w w11 [] [bt eb (zs n), bt db (zs n), bt bb (pm c x), bt ab (zs n), bt sb Ds]) := Lib.hid ⟨D, rfl, fun j h => by omega, fun j _ h => hg1 j h, S12.out⟩
  clear hg1
  go_loopw [13] (fun vi wr => ∃ i : Nat, i ≤ n ∧ vi = .int .i64 i ∧ ∃ Ds : List Nat, Ds.length = D.length ∧ (∀ j, j < i → Ds.getD j 0 = a3 (x.getD j 0)) ∧ (∀ j, i ≤ j → j < n → Ds.getD j 0 = x.getD j 0) ∧ St w wr [] [bt eb (zs n), bt db (zs n), bt bb (pm c x), bt ab (zs n), bt sb Ds]) (fun vi _ => n - (intOf vi).toNat)
  case atStart => exact ⟨0, by omega, rfl, H9.out⟩
  case round =>
    clear H9
    obtain ⟨i, hi, rfl, Ds, hl, hlo, hhi, hs⟩ := hrel
    have T1 := Lib.hid hs; have HLo := Lib.hid hlo; have HHi := Lib.hid hhi; clear hs hlo hhi
    by_cases hlt : i < n
    · have m1 := (T1.out.blk mem4).cellRow (i := i) (by omega)
      rw [HHi.out i (Nat.le_refl _) hlt] at m1
      have f1 := (T1.out.blk mem4).free (i := i)
      obtain ⟨v, HV⟩ : ∃ v, Hid (x.getD i 0 = v) := ⟨_, Lib.hid rfl⟩
      rw [HV.out] at m1
      obtain ⟨z, hz⟩ : ∃ z, Hid (a3 v = z) := ⟨_, Lib.hid rfl⟩
      have e1 : ((v : Int) + 3) % 256 = (z : Int) := by rw [← hz.out]; unfold a3; omega
      have i0 : (0 : Int) ≤ (i : Int) := by omega
      have i1 : (i : Int) < (n : Int) := by omega
      have i2 : (i : Int) < (D.length : Int) := by omega
      go_wp2_with fail
      clear e1
      go_roundw
      case rel =>
        refine ⟨i + 1, by omega, by go_num, Ds.set i z, by simpa using hl, fun j hj => ?_, fun j hj hj2 => ?_, T1.out.setRow (N1 := [_, _, _, _]) i z⟩
        · rw [set_get (by omega)]
          by_cases hij : i = j
          · rw [if_pos hij, ← hij, HV.out, hz.out]
          · rw [if_neg hij]; exact HLo.out j (by omega)
        · rw [set_get (by omega), if_neg (by omega)]; exact HHi.out j (by omega) hj2
      case measure => simp [intOf]; omega
    · obtain rfl : n = i := by omega
      have S20 := T1
      have Q5 : Hid (Ds.take n = x.map a3) := Lib.hid (take_of (by omega) H3N.out (fun j hj => by rw [HLo.out j hj, map_get a3 (by rw [HN.out]; exact hj)]))
      have HG := Lib.hid (fun j (hj : j < n) => HLo.out j hj)
      clear T1 HHi HLo
      go_wp2_with fail
      refine (mul_st (by omega) (by omega) (S20.out.blk mem1) HZ.out H3N.out HE.out (map_a3 x) hn3 (Srcs.new (S20.out.rdTake mem4 Q5.out) (S20.out.ne 4 1 rfl rfl (by decide)))).mono ?_
      rintro e w21 ⟨rfl, hh⟩
      have h21 := S20.out.callN (N1 := [_]) hh; clear hh S20
      try simp only [List.nil_append, List.cons_append, List.append_eq, Int.toNat_natCast] at h21
      have S21 := Lib.hid h21; clear h21
      go_wp2_with fail
      refine (add_st (by omega) (by omega) (S21.out.blk mem0) HZ.out H3N.out HE.out (map_a3 x) (zs_b8 n) hn3 (Srcs.new (S21.out.rdTake mem4 Q5.out) (S21.out.ne 4 0 rfl rfl (by decide)))).mono ?_
      rintro e w22 ⟨rfl, hh⟩
      have h22 := S21.out.callN (N1 := []) hh; clear hh S21
      try simp only [List.nil_append, List.cons_append, List.append_eq, Int.toNat_natCast] at h22
      rw [xs_zs HM3.out] at h22
      have S22 := Lib.hid h22; clear h22
      go_wp2_with fail
      refine (equal_st HM3.out hn3 (S22.out.rd mem1) (S22.out.rd mem0)).mono ?_
      rintro e w23 ⟨rfl, hh⟩
      have h23 := S22.out.call hh; clear hh S22
      try simp only [List.nil_append, List.cons_append, List.append_eq, Int.toNat_natCast] at h23
      have S23 := Lib.hid h23; clear h23
      go_wp2_with fail
      have H16 : Hid (∃ Es : List Nat, Es.length = D.length ∧ (∀ j, j < 2 * 0 → Es.getD j 0 = x.getD j 0) ∧ St w w23 [] [bt eb (pm c (x.map a3)), bt db (pm c (x.map a3)), bt bb (pm c x), bt ab (zs n), bt sb Es]) := Lib.hid ⟨Ds, hl, fun j h => by omega, S23.out⟩
      clear S23 hl Q5 HG
      go_loopw [14] (fun vi wr => ∃ t : Nat, 2 * t ≤ n ∧ vi = .int .i64 (2 * (t : Int)) ∧ ∃ Es : List Nat, Es.length = D.length ∧ (∀ j, j < 2 * t → Es.getD j 0 = x.getD j 0) ∧ St w wr [] [bt eb (pm c (x.map a3)), bt db (pm c (x.map a3)), bt bb (pm c x), bt ab (zs n), bt sb Es]) (fun vi _ => n + 2 - (intOf vi).toNat)
      case atStart => exact ⟨0, by omega, rfl, H16.out⟩
      case round =>
        clear H16
        obtain ⟨t, ht, rfl, Es, hl, hlo, hs⟩ := hrel
        have T3 := Lib.hid hs; have HLo := Lib.hid hlo; clear hs hlo
        by_cases hlt : 2 * t < n
        · have hqn := HQ.out
          obtain ⟨xb, xo, eA, k1⟩ := (T3.out.ext HR.out) (by rw [HN.out]; omega)
          subst eA
          have x1 := k1 (2 * t) (by rw [HN.out]; omega)
          have x2 := k1 (2 * t + 1) (by rw [HN.out]; omega)
          have v1 := H8.out.get (i := 2 * t) (by rw [HN.out]; omega)
          have v2 := H8.out.get (i := 2 * t + 1) (by rw [HN.out]; omega)
          have b1 := (T3.out.blk mem2).cellRow (i := 2 * t) (by rw [HM1.out]; omega)
          have b2 := (T3.out.blk mem2).cellRow (i := 2 * t + 1) (by rw [HM1.out]; omega)
          have d1 := (T3.out.blk mem1).cellRow (i := 2 * t) (by rw [HM3.out]; omega)
          have d2 := (T3.out.blk mem1).cellRow (i := 2 * t + 1) (by rw [HM3.out]; omega)
          rw [pm_even (by rw [HN.out]; omega)] at b1
          rw [pm_odd' (by rw [HN.out]; omega)] at b2
          rw [pm_even (by rw [H3N.out]; omega)] at d1
          rw [pm_odd' (by rw [H3N.out]; omega)] at d2
          have ew : wd (x.map a3) t = a3 (x.getD (2 * t) 0) + 256 * a3 (x.getD (2 * t + 1) 0) := by
            unfold wd; rw [map_get a3 (by rw [HN.out]; omega), map_get a3 (by rw [HN.out]; omega)]
          rw [ew] at d1 d2
          have ew2 : wd x t = x.getD (2 * t) 0 + 256 * x.getD (2 * t + 1) 0 := rfl
          rw [ew2] at b1 b2
          have s1 := (T3.out.blk mem4).cell (i := 2 * t) (row_get (k := .u8) (by omega))
          have s2 := (T3.out.blk mem4).cell (i := 2 * t + 1) (row_get (k := .u8) (by omega))
          have f1 := (T3.out.blk mem4).free (i := 2 * t)
          have f2 := (T3.out.blk mem4).free (i := 2 * t + 1)
          have hne1 : xb ≠ sb := by
            obtain ⟨_, _, e, k0⟩ := HR.out (by rw [HN.out]; omega)
            injection e with e; injection e with e1 e2 _; subst e1 e2
            have h1 := cell_lt (k0 (2 * t) (by rw [HN.out]; omega)); have h2 := T3.out.ge mem4; simp only at h1; omega
          clear k1 ew ew2
          obtain ⟨y1, HY1⟩ : ∃ y, Hid (x.getD (2 * t) 0 = y) := ⟨_, Lib.hid rfl⟩
          obtain ⟨y2, HY2⟩ : ∃ y, Hid (x.getD (2 * t + 1) 0 = y) := ⟨_, Lib.hid rfl⟩
          rw [HY1.out] at x1 v1 b1 b2 d1 d2
          rw [HY2.out] at x2 v2 b1 b2 d1 d2
          obtain ⟨z1, HZ1⟩ : ∃ y, Hid (a3 y1 = y) := ⟨_, Lib.hid rfl⟩
          obtain ⟨z2, HZ2⟩ : ∃ y, Hid (a3 y2 = y) := ⟨_, Lib.hid rfl⟩
          have e1 : ((y1 : Int) + 3) % 256 = (z1 : Int) := by rw [← HZ1.out]; unfold a3; omega
          have e2 : ((y2 : Int) + 3) % 256 = (z2 : Int) := by rw [← HZ2.out]; unfold a3; omega
          have e3 : IntKind.u8.wrap ((y1 : Int) + 3) = (z1 : Int) := by rw [← e1]; simp [IntKind.wrap, IntKind.bits, IntKind.signed]
          have e4 : IntKind.u8.wrap ((y2 : Int) + 3) = (z2 : Int) := by rw [← e2]; simp [IntKind.wrap, IntKind.bits, IntKind.signed]
          have hz1 : z1 < 256 := by rw [← HZ1.out]; exact a3_lt _
          have hz2 : z2 < 256 := by rw [← HZ2.out]; exact a3_lt _
          rw [HZ1.out, HZ2.out] at d1 d2
          have hp := gm_lt (y1 + 256 * y2) hc
          have hp2 := gm_lt (z1 + 256 * z2) hc
          have MP : Hid (∀ (W : World) (a : Int), a = (y1 : Int) + 256 * (y2 : Int) → Calls Try.prog 20 #[.int .u16 (c : Int), .int .u16 a] W fun e w' => e = .returned (.int .u16 ((gm c (y1 + 256 * y2) : Nat) : Int)) ∧ W = w') := Lib.hid (fun W a ha => by
            subst ha; have := Rg.gmul_calls c (y1 + 256 * y2) W hc (by omega); simpa using this)
          have MP2 : Hid (∀ (W : World) (a : Int), a = (z1 : Int) + 256 * (z2 : Int) → Calls Try.prog 20 #[.int .u16 (c : Int), .int .u16 a] W fun e w' => e = .returned (.int .u16 ((gm c (z1 + 256 * z2) : Nat) : Int)) ∧ W = w') := Lib.hid (fun W a ha => by
            subst ha; have := Rg.gmul_calls c (z1 + 256 * z2) W hc (by omega); simpa using this)
          generalize gm c (y1 + 256 * y2) = P at *
          generalize gm c (z1 + 256 * z2) = R at *
          have c1 : ((P % 256 : Nat) : Int) = (P : Int) % 256 := by omega
          have c2 : ((P / 256 : Nat) : Int) = (P : Int) / 256 := by omega
          have c3 : ((R % 256 : Nat) : Int) = (R : Int) % 256 := by omega
          have c4 : ((R / 256 : Nat) : Int) = (R : Int) / 256 := by omega
          rw [c1] at b1; rw [c2] at b2; rw [c3] at d1; rw [c4] at d2
          have g1 : (P : Int) / 256 % 256 = (P : Int) / 256 := by omega
          have g2 : (R : Int) / 256 % 256 = (R : Int) / 256 := by omega
          have i1 : 2 * (t : Int) + 1 < (n : Int) := by omega
          have i2 : 2 * (t : Int) < (n : Int) := by omega
          clear hqn c1 c2 c3 c4
          have i3 : IntKind.i64.wrap (2 * (t : Int) + 1) = 2 * (t : Int) + 1 := IntWalk.i64_in _ (by omega)
          have i4 : (0 : Int) ≤ 2 * (t : Int) := by omega
          have i5 : (0 : Int) ≤ 2 * (t : Int) + 1 := by omega
          have i6 : (2 * (t : Int)).toNat = 2 * t := by omega
          have i7 : (2 * (t : Int) + 1).toNat = 2 * t + 1 := by omega
          go_wp2_with fail
          go_quiet ((go_at_call 20; exact Calls.quiet_of_same ((MP.out _ _ (by first | rfl | omega)).mono fun _ _ h => ⟨h.1, h.2.symm⟩)))
          obtain ⟨wq, hwq⟩ : ∃ wq, wr.drewN nq = wq := ⟨_, rfl⟩
          rw [hwq]
          replace x1 := cell_drew hwq x1; replace x2 := cell_drew hwq x2; replace b1 := cell_drew hwq b1; replace b2 := cell_drew hwq b2; replace d1 := cell_drew hwq d1; replace d2 := cell_drew hwq d2; replace s1 := cell_drew hwq s1; replace s2 := cell_drew hwq s2; replace f1 := frozen_drew hwq f1; replace f2 := frozen_drew hwq f2
          have T4 : Hid (St w wq [] [bt eb (pm c (x.map a3)), bt db (pm c (x.map a3)), bt bb (pm c x), bt ab (zs n), bt sb Es]) := Lib.hid (by rw [← hwq]; exact T3.out.drewN)
          clear T3 hwq
          go_wp2_with fail
          go_quiet ((go_at_call 20; go_must (exact Calls.quiet_of_same ((MP2.out _ _ (by first | rfl | omega)).mono fun _ _ h => ⟨h.1, h.2.symm⟩))))
          go_wp2_with fail
          refine ⟨⟨t + 1, by omega, by simp; omega, (Es.set (2 * t) y1).set (2 * t + 1) y2, by simpa using hl, fun j hj => ?_, ?_⟩, ?_⟩
          · rw [set_get (by rw [List.length_set]; omega)]
            by_cases h1 : 2 * t + 1 = j
            · rw [if_pos h1, ← h1, HY2.out]
            · rw [if_neg h1, set_get (by omega)]
              by_cases h2 : 2 * t = j
              · rw [if_pos h2, ← h2, HY1.out]
              · rw [if_neg h2]; exact HLo.out j (by omega)
          · have h5 := (T4.out.drewN (n := nq)).setRow (N1 := [_, _, _, _]) (2 * t) y1
            exact h5.setRow (N1 := [_, _, _, _]) (2 * t + 1) y2
          · simp [intOf]; omega
        · obtain rfl : t = q := by have := HQ.out; omega
          have Q6 : Hid (Es.take n = x) := Lib.hid (take_of (by omega) HN.out (fun j hj => HLo.out j (by have := HQ.out; omega)))
          have S30 := T3; clear T3 HLo
          go_wp2_with fail
          refine (add_st (by omega) (by omega) (S30.out.blk mem0) HM3.out HN.out HE.out H8.out (m8c.out _) hn3 (Srcs.new (S30.out.rdTake mem4 Q6.out) (S30.out.ne 4 0 rfl rfl (by decide)))).mono ?_
          rintro e w31 ⟨rfl, hh⟩
          have h31 := S30.out.callN (N1 := []) hh; clear hh S30
          try simp only [List.nil_append, List.cons_append, List.append_eq, Int.toNat_natCast] at h31
          have S31 := Lib.hid h31; clear h31
          go_wp2_with fail
          have HXN : Hid ((xs (pm c (x.map a3)) (pm c x)).length = n) := Lib.hid (by rw [xs_length, HM1.out])
          go_loopw [17] (fun vi wr => ∃ i : Nat, i ≤ n ∧ vi = .int .i64 i ∧ St w wr [] [bt eb (xs (pm c (x.map a3)) (pm c x)), bt db (pm c (x.map a3)), bt bb (pm c x)]) (fun vi _ => n - (intOf vi).toNat)
          case atStart => exact ⟨0, by omega, rfl, S31.out.drop (.cons_cons _ (.cons_cons _ (.cons_cons _ (List.nil_sublist _))))⟩
          case round =>
            clear S31
            obtain ⟨i, hi, rfl, hs⟩ := hrel
            have S7 := Lib.hid hs; clear hs
            by_cases hlt : i < n
            · have me := (S7.out.blk mem0).cellRow (i := i) (by rw [HXN.out]; exact hlt)
              have md := (S7.out.blk mem1).cellRow (i := i) (by rw [HM3.out]; exact hlt)
              have mb := (S7.out.blk mem2).cellRow (i := i) (by rw [HM1.out]; exact hlt)
              rw [xs_get (by rw [HM1.out]; exact hlt)] at me
              have u1 := (pm_b8 hc (x.map a3)).get (i := i) (by rw [HM3.out]; exact hlt)
              have u2 := (pm_b8 hc x).get (i := i) (by rw [HM1.out]; exact hlt)
              generalize (pm c (x.map a3)).getD i 0 = y1 at *
              generalize (pm c x).getD i 0 = y2 at *
              have x1 : Go.bits .xor .u8 ((y1 : Nat) : Int) ((y2 : Nat) : Int) = ((y1 ^^^ y2 : Nat) : Int) := Bt.xor8 u1 u2
              have i0 : (0 : Int) ≤ (i : Int) := by omega
              have i1 : (i : Int) < (n : Int) := by omega
              go_wp2_with fail
              go_quiet (fail)
              clear x1
              go_wp2_with fail
              go_roundw
              case rel => exact ⟨i + 1, by omega, by go_num, S7.out.drewN⟩
              case measure => simp [intOf]; omega
            · obtain rfl : n = i := by omega
              go_wp2_with fail
              go_ret
              exact ⟨rfl, S7.out.nil⟩

end Go.Proofs.Ytadgjmlkpnifoaa.Pq
