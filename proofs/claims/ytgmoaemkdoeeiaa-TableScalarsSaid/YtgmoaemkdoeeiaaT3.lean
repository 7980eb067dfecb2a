/- The law TableScalars of layer 5: its walk. -/
import Derived.Test.YtgmoaemkdoeeiaaH5
namespace Go.Proofs.Ytgmoaemkdoeeiaa.L5t
open Go Go.RowKit Go.Proofs.Ytgmoaemkdoeeiaa Go.Proofs.Ytgmoaemkdoeeiaa.Mm Go.Proofs.Ytgmoaemkdoeeiaa.Gf Go.Proofs.Ytgmoaemkdoeeiaa.Wr Go.Proofs.Ytgmoaemkdoeeiaa.St Go.Proofs.Ytgmoaemkdoeeiaa.Tk

/-- Three more, as a byte. -/
def a3 (v : Nat) : Nat := (v + 3) % 256
theorem a3_lt (v : Nat) : a3 v < 256 := Nat.mod_lt _ (by decide)
theorem map_a3 (l : List Nat) : B8 (l.map a3) := by
  intro x hx
  obtain ⟨y, _, rfl⟩ := List.mem_map.1 hx
  exact a3_lt y
theorem map_get {l : List Nat} {i : Nat} (f : Nat → Nat) (h : i < l.length) : (l.map f).getD i 0 = f (l.getD i 0) := by simp [h]
theorem xs_self (l : List Nat) : xs l l = zs l.length := xs_comm_self l
theorem xs_zs {n : Nat} {l : List Nat} (h : l.length = n) : xs (zs n) l = l := by
  apply List.ext_getElem?
  intro i
  by_cases hi : i < n
  · simp [xs, zs, hi, show i < l.length by omega]
  · simp [xs, zs, hi, show ¬ i < l.length by omega]
theorem wr_at {D l : List Nat} {i : Nat} (h : l.length ≤ D.length) : (Wr.wr D 0 (l.take i)).getD i 0 = D.getD i 0 := by
  rw [List.getD_eq_getElem?_getD, wr_get _ _ _ _ (by rw [List.length_take]; omega), if_neg (by rw [List.length_take]; omega), ← List.getD_eq_getElem?_getD]
theorem wr_take {D l : List Nat} (h : l.length ≤ D.length) : (Wr.wr D 0 l).take l.length = l := by
  apply List.ext_getElem?
  intro j
  rw [List.getElem?_take]
  by_cases hj : j < l.length
  · rw [if_pos hj, wr_get _ _ _ _ (by omega), if_pos (by omega)]; rfl
  · rw [if_neg hj, List.getElem?_eq_none (by omega)]

set_option maxRecDepth 100000 in
set_option maxHeartbeats 4000000 in
theorem again_st {kb c : Nat} {A : Option Addr} {n cp : Nat} {x : List Nat} {w : World} (hc : c < 256) (hkb : Blk w kb 52 (row .u8 tabL)) (hx : x.length = n) (hn : n ≤ 140737488351232) (hr : Rd w A x) (h8 : B8 x) :
    Calls Try.prog 20 #[.pointer (some ⟨kb, 0, none⟩), .int .u8 c, .slice A n cp] w fun e w' => e = .returned (.bool true) ∧ St w w' [] [] := by
  have HK := Lib.hid hkb; have HN := Lib.hid hx; have HR := Lib.hid hr; have H8 := Lib.hid h8
  have hkl := hkb.lt
  clear hkb hx hr h8
  have hn3 : n ≤ 281474976710656 := by omega
  have S0 := Lib.hid (St.start w)
  have HZ : Hid ((zs n).length = n) := Lib.hid (zs_length n)
  have HM1 : Hid ((x.map (gm c)).length = n) := Lib.hid (by rw [List.length_map, HN.out])
  have H3N : Hid ((x.map a3).length = n) := Lib.hid (by rw [List.length_map, HN.out])
  have H6N : Hid (((x.map a3).map a3).length = n) := Lib.hid (by rw [List.length_map, H3N.out])
  have m8c : Hid (∀ l : List Nat, B8 (l.map (gm c))) := Lib.hid (fun l => map_b8 hc)
  go_enter Try.func20, Try.ntmps20
  go_wp2_with (first
    | ((with_reducible refine at_slot (N := 16) rfl ?_); refine ev rfl (bslice_run _ 5 0 _ (row .u8 []) rfl (fun _ => by kernel_rfl)) ?_; have S1 := Lib.hid (S0.out.alloc 5 (row .u8 [])); clear S0)
    | ((with_reducible refine at_slot (N := 18) rfl ?_); refine append_clone rfl _ _ rfl w.heap.size rfl S1.out A n cp x rfl HN.out (S1.out.ext HR.out) H8.out (by omega) ?_; intro sb D w2 q1 q2 q3 q4 hs; have S2 := Lib.hid hs; have Q3 := Lib.hid q3; have Q4 := Lib.hid q4; clear hs q3 q4 S1))
  refine (zeros_st hn3).mono ?_
  rintro e w3 ⟨ab, rfl, hh⟩
  have h3 := S2.out.call hh; clear hh S2
  try simp only [List.nil_append, List.cons_append, List.append_eq, Int.toNat_natCast] at h3
  have S3 := Lib.hid h3; clear h3
  go_wp2_with fail
  refine (zeros_st hn3).mono ?_
  rintro e w4 ⟨bb, rfl, hh⟩
  have h4 := S3.out.call hh; clear hh S3
  try simp only [List.nil_append, List.cons_append, List.append_eq, Int.toNat_natCast] at h4
  have S4 := Lib.hid h4; clear h4
  go_wp2_with fail
  refine (zeros_st hn3).mono ?_
  rintro e w5 ⟨db, rfl, hh⟩
  have h5 := S4.out.call hh; clear hh S4
  try simp only [List.nil_append, List.cons_append, List.append_eq, Int.toNat_natCast] at h5
  have S5 := Lib.hid h5; clear h5
  go_wp2_with fail
  refine (zeros_st hn3).mono ?_
  rintro e w6 ⟨eb, rfl, hh⟩
  have h6 := S5.out.call hh; clear hh S5
  try simp only [List.nil_append, List.cons_append, List.append_eq, Int.toNat_natCast] at h6
  have S6 := Lib.hid h6; clear h6
  go_wp2_with fail
  refine (mul_st (by omega) (by omega) (S6.out.keep0 HK.out) (S6.out.blk mem3) HZ.out HN.out H8.out (zs_b8 n) hn3 (S6.out.rdTake mem4 Q4.out) (S6.out.ne0 hkl mem3)).mono ?_
  rintro e w7 ⟨rfl, hh⟩
  have h7 := S6.out.callN (N1 := [_, _, _]) hh; clear hh S6
  try simp only [List.nil_append, List.cons_append, List.append_eq, Int.toNat_natCast] at h7
  have S7 := Lib.hid h7; clear h7
  go_wp2_with fail
  refine (add_st (by omega) (by omega) (S7.out.keep0 HK.out) (S7.out.blk mem3) HM1.out HN.out H8.out (m8c.out _) hn3 (S7.out.rdTake mem4 Q4.out) (S7.out.ne0 hkl mem3)).mono ?_
  rintro e w8 ⟨rfl, hh⟩
  have h8 := S7.out.callN (N1 := [_, _, _]) hh; clear hh S7
  try simp only [List.nil_append, List.cons_append, List.append_eq, Int.toNat_natCast] at h8
  rw [xs_self, HM1.out] at h8
  have S8 := Lib.hid h8; clear h8
  go_wp2_with fail
  refine (mul_st (by omega) (by omega) (S8.out.keep0 HK.out) (S8.out.blk mem2) HZ.out HN.out H8.out (zs_b8 n) hn3 (S8.out.rdTake mem4 Q4.out) (S8.out.ne0 hkl mem2)).mono ?_
  rintro e w9 ⟨rfl, hh⟩
  have h9 := S8.out.callN (N1 := [_, _]) hh; clear hh S8
  try simp only [List.nil_append, List.cons_append, List.append_eq, Int.toNat_natCast] at h9
  have S9 := Lib.hid h9; clear h9
  go_wp2_with fail
  have H9 := S9; clear S9
  have hDn : n ≤ D.length := q1
  have hg1 : ∀ i, i < n → D.getD i 0 = x.getD i 0 := fun i hi => getD_take Q4.out (by rw [HN.out]; exact hi)
  have HG1 := Lib.hid hg1
  have HT3 : Hid ((Wr.wr D 0 (x.map a3)).take n = x.map a3) := Lib.hid (by have := wr_take (D := D) (l := x.map a3) (by rw [H3N.out]; exact q1); rw [H3N.out] at this; exact this)
  clear hg1
  go_loopw [13] (fun vi wr => ∃ i : Nat, i ≤ n ∧ vi = .int .i64 i ∧ St w wr [] [bt eb (zs n), bt db (zs n), bt bb (x.map (gm c)), bt ab (zs n), bt sb (Wr.wr D 0 ((x.map a3).take i))]) (fun vi _ => n - (intOf vi).toNat)
  case atStart => exact ⟨0, by omega, rfl, H9.out⟩
  case round =>
    clear H9
    obtain ⟨i, hi, rfl, hs⟩ := hrel
    have S1 := Lib.hid hs; clear hs
    by_cases hlt : i < n
    · have m1 := (S1.out.blk mem4).cellRow (i := i) (by rw [wr_length]; omega)
      rw [wr_at (by rw [H3N.out]; exact hDn), HG1.out i hlt] at m1
      have f1 := (S1.out.blk mem4).free (i := i)
      have HV : Hid ((x.map a3).getD i 0 = a3 (x.getD i 0)) := Lib.hid (map_get a3 (by rw [HN.out]; exact hlt))
      have HS := Lib.hid (wr_take_succ (D := D) (o := 0) (vs := x.map a3) (i := i) (by rw [H3N.out]; exact hlt))
      generalize x.getD i 0 = v at *
      obtain ⟨z, hz⟩ : ∃ z, Hid (a3 v = z) := ⟨_, Lib.hid rfl⟩
      have e1 : ((v : Int) + 3) % 256 = (z : Int) := by rw [← hz.out]; unfold a3; omega
      have i0 : (0 : Int) ≤ (i : Int) := by omega
      have i1 : (i : Int) < (n : Int) := by omega
      go_wp2_with fail
      clear e1
      go_roundw
      case rel =>
        refine ⟨i + 1, by omega, by go_num, ?_⟩
        rw [HS.out, HV.out, hz.out, Nat.zero_add]
        exact S1.out.setRow (N1 := [_, _, _, _]) i z
      case measure => simp [intOf]; omega
    · obtain rfl : n = i := by omega
      rw [List.take_of_length_le (by rw [H3N.out]; exact Nat.le_refl _)] at S1
      go_wp2_with fail
      refine (mul_st (by omega) (by omega) (S1.out.keep0 HK.out) (S1.out.blk mem1) HZ.out H3N.out (map_a3 x) (zs_b8 n) hn3 (S1.out.rdTake mem4 HT3.out) (S1.out.ne0 hkl mem1)).mono ?_
      rintro e w2 ⟨rfl, hh⟩
      have h2 := S1.out.callN (N1 := [_]) hh; clear hh S1
      try simp only [List.nil_append, List.cons_append, List.append_eq, Int.toNat_natCast] at h2
      have S2 := Lib.hid h2; clear h2
      go_wp2_with fail
      refine (add_st (by omega) (by omega) (S2.out.keep0 HK.out) (S2.out.blk mem0) HZ.out H3N.out (map_a3 x) (zs_b8 n) hn3 (S2.out.rdTake mem4 HT3.out) (S2.out.ne0 hkl mem0)).mono ?_
      rintro e w3 ⟨rfl, hh⟩
      have h3 := S2.out.callN (N1 := []) hh; clear hh S2
      try simp only [List.nil_append, List.cons_append, List.append_eq, Int.toNat_natCast] at h3
      rw [xs_zs (by rw [List.length_map, H3N.out])] at h3
      have S3 := Lib.hid h3; clear h3
      go_wp2_with fail
      have H12 := S3; clear S3
      have HD2 : Hid (∀ i, i < n → (Wr.wr D 0 (x.map a3)).getD i 0 = a3 (x.getD i 0)) := Lib.hid (fun i hi => by rw [getD_take HT3.out (by rw [H3N.out]; exact hi)]; exact map_get a3 (by rw [HN.out]; exact hi))
      have hDn2 : n ≤ (Wr.wr D 0 (x.map a3)).length := by rw [wr_length]; exact q1
      have HT6 : Hid ((Wr.wr (Wr.wr D 0 (x.map a3)) 0 ((x.map a3).map a3)).take n = (x.map a3).map a3) := Lib.hid (by have := wr_take (D := Wr.wr D 0 (x.map a3)) (l := (x.map a3).map a3) (by rw [H6N.out]; exact hDn2); rw [H6N.out] at this; exact this)
      have H6B : Hid (B8 ((x.map a3).map a3)) := Lib.hid (map_a3 _)
      have HM3 : Hid (((x.map a3).map (gm c)).length = n) := Lib.hid (by rw [List.length_map, H3N.out])
      generalize Wr.wr D 0 (x.map a3) = D2 at *
      go_loopw [14] (fun vi wr => ∃ i : Nat, i ≤ n ∧ vi = .int .i64 i ∧ St w wr [] [bt eb ((x.map a3).map (gm c)), bt db ((x.map a3).map (gm c)), bt bb (x.map (gm c)), bt ab (zs n), bt sb (Wr.wr D2 0 (((x.map a3).map a3).take i))]) (fun vi _ => n - (intOf vi).toNat)
      case atStart => exact ⟨0, by omega, rfl, H12.out⟩
      case round =>
        clear H12
        obtain ⟨i, hi, rfl, hs⟩ := hrel
        have S4 := Lib.hid hs; clear hs
        by_cases hlt : i < n
        · obtain ⟨xb, xo, eA, k1⟩ := (S4.out.ext HR.out) (by rw [HN.out]; omega)
          have mx := k1 i (by rw [HN.out]; exact hlt)
          have hv := H8.out.get (i := i) (by rw [HN.out]; exact hlt)
          subst eA
          clear k1
          have ms := (S4.out.blk mem4).cellRow (i := i) (by rw [wr_length]; omega)
          rw [wr_at (by rw [H6N.out]; exact hDn2), HD2.out i hlt] at ms
          have fs := (S4.out.blk mem4).free (i := i)
          have ma := (S4.out.blk mem3).cellRow (i := i) (by rw [HZ.out]; exact hlt)
          rw [show (zs n).getD i 0 = 0 from by simp [zs, hlt]] at ma
          have mb := (S4.out.blk mem2).cellRow (i := i) (by rw [HM1.out]; exact hlt)
          rw [map_get (gm c) (by rw [HN.out]; exact hlt)] at mb
          have md := (S4.out.blk mem1).cellRow (i := i) (by rw [HM3.out]; exact hlt)
          rw [map_get (gm c) (by rw [H3N.out]; exact hlt), map_get a3 (by rw [HN.out]; exact hlt)] at md
          have me := (S4.out.blk mem0).cellRow (i := i) (by rw [HM3.out]; exact hlt)
          rw [map_get (gm c) (by rw [H3N.out]; exact hlt), map_get a3 (by rw [HN.out]; exact hlt)] at me
          have HV : Hid (((x.map a3).map a3).getD i 0 = a3 (a3 (x.getD i 0))) := Lib.hid (by rw [map_get a3 (by rw [H3N.out]; exact hlt), map_get a3 (by rw [HN.out]; exact hlt)])
          have HS := Lib.hid (wr_take_succ (D := D2) (o := 0) (vs := (x.map a3).map a3) (i := i) (by rw [H6N.out]; exact hlt))
          generalize x.getD i 0 = v at *
          obtain ⟨z, hz⟩ : ∃ z, Hid (a3 v = z) := ⟨_, Lib.hid rfl⟩
          rw [hz.out] at ms md me
          obtain ⟨u, hu⟩ : ∃ u, Hid (a3 z = u) := ⟨_, Lib.hid rfl⟩
          have hz8 : z < 256 := by rw [← hz.out]; exact a3_lt v
          have e1 : ((v : Int) + 3) % 256 = (z : Int) := by rw [← hz.out]; unfold a3; omega
          have e2 : ((z : Int) + 3) % 256 = (u : Int) := by rw [← hu.out]; unfold a3; omega
          have e3 : IntKind.u8.wrap ((v : Int) + 3) = (z : Int) := by rw [← e1]; simp [IntKind.wrap, IntKind.bits, IntKind.signed]
          have i0 : (0 : Int) ≤ (i : Int) := by omega
          have i1 : (i : Int) < (n : Int) := by omega
          go_wp2_with fail
          go_quiet ((go_at_call 17; exact Calls.quiet_of_same ((mul2_any _ _ _ (by omega) (by omega) (by omega) (by omega)).mono fun _ _ h => ⟨h.1, h.2.symm⟩)))
          clear e3 e1
          go_wp2_with fail
          clear e2
          go_roundw
          case rel =>
            refine ⟨i + 1, by omega, by go_num, ?_⟩
            rw [HS.out, HV.out, hz.out, hu.out, Nat.zero_add]
            exact (S4.out.setRow (N1 := [_, _, _, _]) i u).drewN
          case measure => simp [intOf]; omega
        · obtain rfl : n = i := by omega
          rw [List.take_of_length_le (by rw [H6N.out]; exact Nat.le_refl _)] at S4
          go_wp2_with fail
          refine (add_st (by omega) (by omega) (S4.out.keep0 HK.out) (S4.out.blk mem0) HM3.out H6N.out H6B.out (m8c.out _) hn3 (S4.out.rdTake mem4 HT6.out) (S4.out.ne0 hkl mem0)).mono ?_
          rintro e w5 ⟨rfl, hh⟩
          have h5 := S4.out.callN (N1 := []) hh; clear hh S4
          try simp only [List.nil_append, List.cons_append, List.append_eq, Int.toNat_natCast] at h5
          have S5 := Lib.hid h5; clear h5
          go_wp2_with fail
          have H15 := S5; clear S5
          have HXN : Hid ((xs ((x.map a3).map (gm c)) (((x.map a3).map a3).map (gm c))).length = n) := Lib.hid (by rw [xs_length, HM3.out])
          go_loopw [15] (fun vi wr => ∃ i : Nat, i ≤ n ∧ vi = .int .i64 i ∧ St w wr [] [bt eb (xs ((x.map a3).map (gm c)) (((x.map a3).map a3).map (gm c))), bt db ((x.map a3).map (gm c))]) (fun vi _ => n - (intOf vi).toNat)
          case atStart => exact ⟨0, by omega, rfl, H15.out.drop (.cons_cons _ (.cons_cons _ (List.nil_sublist _)))⟩
          case round =>
            clear H15
            obtain ⟨i, hi, rfl, hs⟩ := hrel
            have S7 := Lib.hid hs; clear hs
            by_cases hlt : i < n
            · obtain ⟨xb, xo, eA, k1⟩ := (S7.out.ext HR.out) (by rw [HN.out]; omega)
              have mx := k1 i (by rw [HN.out]; exact hlt)
              have hv := H8.out.get (i := i) (by rw [HN.out]; exact hlt)
              subst eA
              clear k1
              have md := (S7.out.blk mem1).cellRow (i := i) (by rw [HM3.out]; exact hlt)
              rw [map_get (gm c) (by rw [H3N.out]; exact hlt), map_get a3 (by rw [HN.out]; exact hlt)] at md
              have me := (S7.out.blk mem0).cellRow (i := i) (by rw [HXN.out]; exact hlt)
              rw [xs_get (by rw [HM3.out]; exact hlt), map_get (gm c) (by rw [H3N.out]; exact hlt), map_get a3 (by rw [HN.out]; exact hlt), map_get (gm c) (by rw [H6N.out]; exact hlt), map_get a3 (by rw [H3N.out]; exact hlt), map_get a3 (by rw [HN.out]; exact hlt)] at me
              generalize x.getD i 0 = v at *
              obtain ⟨z, hz⟩ : ∃ z, Hid (a3 v = z) := ⟨_, Lib.hid rfl⟩
              rw [hz.out] at md me
              obtain ⟨u, hu⟩ : ∃ u, Hid (a3 z = u) := ⟨_, Lib.hid rfl⟩
              rw [hu.out] at me
              have hu8 : u < 256 := by rw [← hu.out]; exact a3_lt z
              have e3 : IntKind.u8.wrap ((v : Int) + 6) = (u : Int) := by
                rw [← hu.out, ← hz.out]
                simp [IntKind.wrap, IntKind.bits, IntKind.signed, a3]
                omega
              have x1 : Go.bits .xor .u8 ((gm c z : Nat) : Int) ((gm c u : Nat) : Int) = ((gm c z ^^^ gm c u : Nat) : Int) := Bt.xor8 (gm_lt _ hc) (gm_lt _ hc)
              have i0 : (0 : Int) ≤ (i : Int) := by omega
              have i1 : (i : Int) < (n : Int) := by omega
              go_wp2_with fail
              go_quiet ((go_at_call 17; exact Calls.quiet_of_same ((mul2_any _ _ _ (by omega) (by omega) (by omega) (by omega)).mono fun _ _ h => ⟨h.1, h.2.symm⟩)))
              clear e3 x1
              go_wp2_with fail
              go_roundw
              case rel => exact ⟨i + 1, by omega, by go_num, S7.out.drewN⟩
              case measure => simp [intOf]; omega
            · obtain rfl : n = i := by omega
              go_wp2_with fail
              go_ret
              exact ⟨rfl, S7.out.nil⟩

set_option maxRecDepth 100000 in
set_option maxHeartbeats 4000000 in
theorem scalars_walk (c : Nat) (A : Option Addr) (n cp : Nat) (x : List Nat) (w : World) (hc : c < 256) (h : (Kk.kSlice Kk.kByte 1).ok w.heap.size w [.slice A n cp] x) :
    Calls Try.prog 8 #[.int .u8 c, .slice A n cp] w fun e w' => e = .returned (.bool true) ∧ Below w.heap.size w w' := by
  obtain ⟨hn, hn1, hcap1, hr, h8, _⟩ := open_bytes h
  clear h
  have HN := Lib.hid hn; have HR := Lib.hid hr; have H8 := Lib.hid h8
  clear hn hr h8
  have hn3 : n ≤ 281474976710656 := by omega
  have HZ : Hid ((zs n).length = n) := Lib.hid (zs_length n)
  have HM1 : Hid ((x.map (gm c)).length = n) := Lib.hid (by rw [List.length_map, HN.out])
  have S0 := Lib.hid (St.start w)
  go_enter Try.func8, Try.ntmps8
  go_wp2_with fail
  refine (awake_st _).mono ?_
  rintro e w1 ⟨kb, rfl, hh⟩
  have h1 := S0.out.call hh; clear hh S0
  try simp only [List.nil_append, List.cons_append, List.append_eq, Int.toNat_natCast] at h1
  have S1 := Lib.hid h1; clear h1
  go_wp2_with fail
  refine (row_at kb c _ (S1.out.blk mem0) hc).mono ?_
  rintro e w2 ⟨rb, rfl, hh⟩
  have h2 := S1.out.call hh; clear hh S1
  try simp only [List.nil_append, List.cons_append, List.append_eq, Int.toNat_natCast] at h2
  have S2 := Lib.hid h2; clear h2
  go_wp2_with fail
  refine (zeros_st hn3).mono ?_
  rintro e w3 ⟨db, rfl, hh⟩
  have h3 := S2.out.call hh; clear hh S2
  try simp only [List.nil_append, List.cons_append, List.append_eq, Int.toNat_natCast] at h3
  have S3 := Lib.hid h3; clear h3
  go_wp2_with fail
  refine (again_st hc (S3.out.blk mem2) HN.out hn1 (S3.out.ext HR.out) H8.out).mono ?_
  rintro e w4 ⟨rfl, hh⟩
  have h4 := S3.out.call hh; clear hh S3
  try simp only [List.nil_append, List.cons_append, List.append_eq, Int.toNat_natCast] at h4
  have S4 := Lib.hid h4; clear h4
  go_wp2_with fail
  refine (mul_st (by omega) (by omega) (S4.out.blk mem2) (S4.out.blk mem0) HZ.out HN.out H8.out (zs_b8 n) hn3 (S4.out.ext HR.out) (S4.out.ne 2 0 rfl rfl (by decide))).mono ?_
  rintro e w5 ⟨rfl, hh⟩
  have h5 := S4.out.callN (N1 := []) hh; clear hh S4
  try simp only [List.nil_append, List.cons_append, List.append_eq, Int.toNat_natCast] at h5
  have S5 := Lib.hid h5; clear h5
  go_wp2_with fail
  have H6 := S5; clear S5
  go_loopw [9] (fun vi wr => ∃ i : Nat, i ≤ n ∧ vi = .int .i64 i ∧ St w wr [] [bt db (x.map (gm c)), bt rb (rowOf c), tk kb]) (fun vi _ => n - (intOf vi).toNat)
  case atStart => exact ⟨0, by omega, rfl, H6.out⟩
  case round =>
    clear H6
    obtain ⟨i, hi, rfl, hs⟩ := hrel
    have S7 := Lib.hid hs; clear hs
    by_cases hlt : i < n
    · obtain ⟨xb, xo, eA, k1⟩ := (S7.out.ext HR.out) (by rw [HN.out]; omega)
      have mx := k1 i (by rw [HN.out]; exact hlt)
      have hv := H8.out.get (i := i) (by rw [HN.out]; exact hlt)
      subst eA
      clear k1
      have md := (S7.out.blk mem0).cellRow (i := i) (by rw [HM1.out]; exact hlt)
      rw [map_get (gm c) (by rw [HN.out]; exact hlt)] at md
      generalize x.getD i 0 = v at *
      have mr := (S7.out.blk mem1).cellRow (i := v) (by rw [rowOf_length]; exact hv)
      rw [rowOf_get hv] at mr
      have v0 : (0 : Int) ≤ (v : Int) := by omega
      have v1 : (v : Int) < 256 := by omega
      have i0 : (0 : Int) ≤ (i : Int) := by omega
      have i1 : (i : Int) < (n : Int) := by omega
      go_wp2_with fail
      refine (mul2_any _ _ _ (by omega) (by omega) (by omega) (by omega)).mono ?_
      rintro e _ ⟨rfl, rfl⟩
      go_wp2_with fail
      refine (product_any kb _ _ _ (S7.out.blk mem2) (by omega) (by omega) (by omega) (by omega)).mono ?_
      rintro e _ ⟨rfl, rfl⟩
      go_wp2_with fail
      clear mx md mr
      go_roundw
      case rel => exact ⟨i + 1, by omega, by go_num, S7.out⟩
      case measure => simp [intOf]; omega
    · obtain rfl : n = i := by omega
      go_wp2_with fail
      go_ret
      exact ⟨rfl, S7.out.below⟩

end Go.Proofs.Ytgmoaemkdoeeiaa.L5t
