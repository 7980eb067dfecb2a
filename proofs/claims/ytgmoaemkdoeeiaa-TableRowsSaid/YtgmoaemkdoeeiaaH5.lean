/- Layer 5: the contracts of the laws' helpers (culletlaw05), over St. -/
import Derived.Test.YtgmoaemkdoeeiaaTn
import Derived.Test.YtgmoaemkdoeeiaaKk
import Derived.Test.YtgmoaemkdoeeiaaR3
namespace Go.Proofs.Ytgmoaemkdoeeiaa.L5t
set_option linter.unusedSimpArgs false
set_option linter.unusedVariables false
open Go Go.RowKit Go.Proofs.Ytgmoaemkdoeeiaa Go.Proofs.Ytgmoaemkdoeeiaa.Mm Go.Proofs.Ytgmoaemkdoeeiaa.Gf Go.Proofs.Ytgmoaemkdoeeiaa.Wr Go.Proofs.Ytgmoaemkdoeeiaa.St Go.Proofs.Ytgmoaemkdoeeiaa.Tk

/-- A slice argument of bytes, opened. -/
theorem open_bytes {B : Nat} {w : World} {A : Option Addr} {n c : Nat} {l : List Nat} (h : (Kk.kSlice Kk.kByte 1).ok B w [.slice A n c] l) : l.length = n ∧ n ≤ 140737488351232 ∧ n ≤ c ∧ Rd w A l ∧ B8 l ∧ (∀ a, A = some a → 0 < n → a.block < B) := by
  obtain ⟨A', c', he, hlc, _, hr, hrow⟩ := h
  injection he with he _
  injection he with e1 e2 e3
  subst e1 e2 e3
  refine ⟨rfl, by unfold reachBytes at hr; omega, hlc, fun h0 => ?_, fun x hx => ?_, fun a ha h0 => ?_⟩
  · obtain ⟨b, off, hA, _, hc⟩ := hrow h0
    refine ⟨b, off, hA, fun i hi => ?_⟩
    obtain ⟨cs, ⟨rfl, _⟩, hcell⟩ := hc i hi
    have := hcell 0 _ rfl
    have e : l.getD i 0 = l[i] := by simp [hi]
    rw [e]
    simpa [Kk.kByte] using this
  · obtain ⟨i, hi, rfl⟩ := List.getElem_of_mem hx
    obtain ⟨b, off, hA, _, hc⟩ := hrow (by omega)
    obtain ⟨cs, ⟨_, hok⟩, _⟩ := hc i hi
    exact hok
  · obtain ⟨b, off, hA, hb, _⟩ := hrow h0
    rw [hA] at ha
    injection ha with ha
    rw [← ha]; exact hb

set_option maxRecDepth 100000 in
set_option maxHeartbeats 1000000 in
theorem equal_st {A1 A2 : Option Addr} {m c1 c2 : Nat} {l : List Nat} {w : World} (hm : l.length = m) (hl : m ≤ 281474976710656) (h1 : Rd w A1 l) (h2 : Rd w A2 l) :
    Calls Try.prog 16 #[.slice A1 m c1, .slice A2 m c2] w fun e w' => e = .returned (.bool true) ∧ St w w' [] [] := by
  have H1 := Lib.hid h1; have H2 := Lib.hid h2; have HM := Lib.hid hm
  clear h1 h2 hm
  have S0 := Lib.hid (St.start w)
  go_enter Try.func16, Try.ntmps16
  go_wp2
  go_loopw [5] (fun vi wr => ∃ i : Nat, i ≤ m ∧ vi = .int .i64 i ∧ ∃ n, wr = w.drewN n) (fun vi _ => m - (intOf vi).toNat)
  case atStart => exact ⟨0, by omega, rfl, 0, rfl⟩
  case round =>
    obtain ⟨i, hi, rfl, n, rfl⟩ := hrel
    by_cases hlt : i < m
    · obtain ⟨b1, o1, e1, k1⟩ := H1.out (by rw [HM.out]; omega)
      obtain ⟨b2, o2, e2, k2⟩ := H2.out (by rw [HM.out]; omega)
      subst e1 e2
      have m1 := k1 i (by rw [HM.out]; exact hlt)
      have m2 := k2 i (by rw [HM.out]; exact hlt)
      clear k1 k2 H1 H2
      go_wp2
      go_quiet (fail)
      go_wp2
      go_roundw
      case rel => exact ⟨i + 1, by omega, by go_num, _, rfl⟩
      case measure => simp [intOf]; omega
    · clear H1 H2
      go_wp2
      go_ret
      exact ⟨rfl, S0.out.drewN⟩

theorem zeros_st {n : Nat} {w : World} (hn : n ≤ 281474976710656) : Calls Try.prog 13 #[.int .i64 n] w fun e w' => ∃ b, e = .returned (.slice (some ⟨b, 0, none⟩) n n) ∧ St w w' [] [bt b (zs n)] := by
  have S0 := Lib.hid (St.start w)
  go_enter Try.func13, Try.ntmps13
  go_wp2_with ((with_reducible refine at_slot (N := 4) rfl ?_); refine ev rfl (make_zs 23 5 _ _ .u8 .i64 .i64 n n 1 rfl rfl rfl Try.underlying23 info_u8 (Nat.le_refl _) (by omega) (by omega)) ?_)
  go_ret
  exact ⟨_, rfl, S0.out.alloc _ _⟩
theorem zs_b8 (n : Nat) : B8 (zs n) := B8.zeros n

theorem xs_take {x y : List Nat} {n : Nat} (hx : n ≤ x.length) (hy : n ≤ y.length) : xs (x.take n) (y.take n) = fill (fun i => x.getD i 0 ^^^ y.getD i 0) n n := by
  rw [fill_done]
  unfold xs
  rw [List.length_take, Nat.min_eq_left hx]
  apply List.map_congr_left
  intro i hi
  have hi' : i < n := by simpa using hi
  simp [List.getElem?_take, hi']

set_option maxRecDepth 100000 in
set_option maxHeartbeats 1000000 in
theorem sum_st {A1 A2 : Option Addr} {n1 n2 n c1 c2 : Nat} {x y : List Nat} {w : World} (hx : x.length = n1) (hy : y.length = n2) (hn : n = min n1 n2) (hl : n1 ≤ 140737488351232) (h1 : Rd w A1 x) (h2 : Rd w A2 y) (h81 : B8 x) (h82 : B8 y) :
    Calls Try.prog 12 #[.slice A1 n1 c1, .slice A2 n2 c2] w fun e w' => ∃ b, e = .returned (.slice (some ⟨b, 0, none⟩) n n) ∧ St w w' [] [bt b (xs (x.take n) (y.take n))] := by
  have H1 := Lib.hid h1; have H2 := Lib.hid h2; have HX := Lib.hid hx; have HY := Lib.hid hy; have HX8 := Lib.hid h81; have HY8 := Lib.hid h82
  have hn1 : n ≤ n1 := by omega
  have hn2 : n ≤ n2 := by omega
  have HXT := Lib.hid (xs_take (x := x) (y := y) (n := n) (by omega) (by omega))
  have key : (n2 < n1 ∧ n2 = n) ∨ (¬ n2 < n1 ∧ n1 = n) := by omega
  clear h1 h2 hx hy h81 h82 hn
  rcases key with ⟨hcmp, he⟩ | ⟨hcmp, he⟩
  all_goals
    replace he := congrArg (Nat.cast (R := Int)) he
    have S0 := Lib.hid (St.start w)
    go_enter Try.func12, Try.ntmps12
    go_wp2_with ((with_reducible refine at_slot (N := 14) rfl ?_); refine ev rfl (make_run 23 5 _ _ .u8 .i64 .i64 n n 1 rfl rfl rfl Try.underlying23 info_u8 (Nat.le_refl _) (by omega) (by omega)) ?_)
    clear he hcmp
    go_loopw [7] (fun vi wr => ∃ i : Nat, i ≤ n ∧ vi = .int .i64 i ∧ St w wr [] [bt w.heap.size (fill (fun i => x.getD i 0 ^^^ y.getD i 0) n i)]) (fun vi _ => n - (intOf vi).toNat)
    case atStart => exact ⟨0, by omega, rfl, by rw [fill_zero]; exact S0.out.alloc _ _⟩
    case round =>
      clear S0
      obtain ⟨i, hi, rfl, hs⟩ := hrel
      have S1 := Lib.hid hs; clear hs
      by_cases hlt : i < n
      · obtain ⟨b1, o1, e1, k1⟩ := (S1.out.ext H1.out) (by rw [HX.out]; omega)
        obtain ⟨b2, o2, e2, k2⟩ := (S1.out.ext H2.out) (by rw [HY.out]; omega)
        subst e1 e2
        have m1 := k1 i (by rw [HX.out]; omega)
        have m2 := k2 i (by rw [HY.out]; omega)
        have hx := HX8.out.get (i := i) (by rw [HX.out]; omega)
        have hy := HY8.out.get (i := i) (by rw [HY.out]; omega)
        have m3 := (S1.out.blk mem0).cellRow (i := i) (by rw [fill_length]; exact hlt)
        have f3 := (S1.out.blk mem0).free (i := i)
        have HF := Lib.hid (fill_step (f := fun i => x.getD i 0 ^^^ y.getD i 0) hlt)
        have HFV : Hid ((fun i => x.getD i 0 ^^^ y.getD i 0) i = x.getD i 0 ^^^ y.getD i 0) := Lib.hid rfl
        generalize (fill (fun i => x.getD i 0 ^^^ y.getD i 0) n i).getD i 0 = z at m3
        clear k1 k2
        obtain ⟨a, ha⟩ : ∃ a, Hid (a = x.getD i 0) := ⟨_, Lib.hid rfl⟩
        obtain ⟨b, hb⟩ : ∃ b, Hid (b = y.getD i 0) := ⟨_, Lib.hid rfl⟩
        rw [← ha.out] at m1 hx
        rw [← hb.out] at m2 hy
        have x1 : Go.bits .xor .u8 (a : Int) (b : Int) = ((a ^^^ b : Nat) : Int) := Bt.xor8 hx hy
        have i0 : (0 : Int) ≤ (i : Int) := by omega
        have i1 : (i : Int) < (n1 : Int) := by omega
        have i2 : (i : Int) < (n2 : Int) := by omega
        go_wp2_with fail
        go_region
        clear x1
        go_wp2_with fail
        go_roundw
        case rel =>
          refine ⟨i + 1, by omega, by go_num, ?_⟩
          have h := (S1.out.setRow (N1 := []) i (a ^^^ b)).drew
          rw [ha.out, hb.out, HF.out] at h
          rw [ha.out, hb.out]
          exact h
        case measure => simp [intOf]; omega
      · obtain rfl : n = i := by omega
        rw [← HXT.out] at S1
        go_wp2_with fail
        go_ret
        exact ⟨_, rfl, S1.out⟩

theorem product_any (kb : Nat) (c x : Int) (w : World) (hkb : Blk w kb 52 (row .u8 tabL)) (hc0 : 0 ≤ c) (hc : c < 256) (hx0 : 0 ≤ x) (hx : x < 256) :
    Calls Try.prog 21 #[.pointer (some ⟨kb, 0, none⟩), .int .u8 c, .int .u8 x] w fun e w' => e = .returned (.int .u8 ((gm c.toNat x.toNat : Nat) : Int)) ∧ w = w' := by
  obtain ⟨c, rfl⟩ := Int.eq_ofNat_of_zero_le hc0
  obtain ⟨x, rfl⟩ := Int.eq_ofNat_of_zero_le hx0
  exact product_at kb c x w hkb (by omega) (by omega)

theorem m1 : [1, 2, 128].map (gm (2 : Int).toNat) = [2, 4, 29] := by decide +kernel
theorem m2 : xs [2, 4, 29] ([1, 2, 1].map (gm (2 : Int).toNat)) = [0, 0, 31] := by decide +kernel

set_option maxRecDepth 100000 in
set_option maxHeartbeats 2000000 in
theorem awake_st (w : World) : Calls Try.prog 11 #[] w fun e w' => ∃ b, e = .returned (.pointer (some ⟨b, 0, none⟩)) ∧ St w w' [] [tk b] := by
  have S0 := Lib.hid (St.start w)
  have p29 : gm 2 128 = 29 := by decide +kernel
  go_enter Try.func11, Try.ntmps11
  go_wp2_with fail
  refine (new_st _).mono ?_
  rintro e w1 ⟨kb, rfl, hh⟩
  have h1 := S0.out.call hh; clear hh S0
  try simp only [List.nil_append, List.cons_append, List.append_eq, Int.toNat_natCast] at h1
  have S1 := Lib.hid h1; clear h1
  go_wp2_with fail
  refine (product_any kb 2 128 _ (S1.out.blk mem0) (by decide) (by decide) (by decide) (by decide)).mono ?_
  rintro e _ ⟨rfl, rfl⟩
  go_wp2_with (first
    | ((with_reducible refine at_slot (N := 11) rfl ?_); refine ev rfl (bslice_run _ 5 3 _ (row .u8 [9, 9, 9]) rfl (fun _ => by kernel_rfl)) ?_; have S2 := Lib.hid (S1.out.alloc 5 (row .u8 [9, 9, 9])); clear S1)
    | ((with_reducible refine at_slot (N := 14) rfl ?_); refine ev rfl (bslice_run _ 5 3 _ (row .u8 [1, 2, 128]) rfl (fun _ => by kernel_rfl)) ?_; have S3 := Lib.hid (S2.out.alloc 5 (row .u8 [1, 2, 128])); clear S2))
  have h4 := S3.out; clear S3
  simp only [World.size_alloc, List.nil_append, List.cons_append, List.append_eq] at h4
  have S4 := Lib.hid h4; clear h4
  refine (mul_st (D := [9, 9, 9]) (l := [1, 2, 128]) (by decide) (by decide) (S4.out.blk mem2) (S4.out.blk mem1) rfl rfl (B8.of_all (by decide)) (B8.of_all (by decide)) (by decide) (S4.out.rd mem0) (S4.out.ne 2 1 rfl rfl (by decide))).mono ?_
  rintro e w5 ⟨rfl, hh⟩
  have h5 := S4.out.callN (N1 := [_]) hh; clear hh S4
  try simp only [List.nil_append, List.cons_append, List.append_eq, Int.toNat_natCast] at h5
  rw [m1] at h5
  have S5 := Lib.hid h5; clear h5
  go_wp2_with ((with_reducible refine at_slot (N := 19) rfl ?_); refine evg rfl (bslice_run _ 5 3 _ (row .u8 [2, 4, 29]) rfl (fun _ => by kernel_rfl)) ?_; have S6 := Lib.hid (S5.out.alloc 5 (row .u8 [2, 4, 29])); clear S5)
  refine (equal_st (l := [2, 4, 29]) rfl (by decide) (S6.out.rd mem2) (S6.out.rd mem0)).mono ?_
  rintro e w7 ⟨rfl, hh⟩
  have h7 := S6.out.call hh; clear hh S6
  try simp only [List.nil_append, List.cons_append, List.append_eq, Int.toNat_natCast] at h7
  have S7 := Lib.hid h7; clear h7
  go_wp2_with ((with_reducible refine at_slot (N := 25) rfl ?_); refine ev rfl (bslice_run _ 5 3 _ (row .u8 [1, 2, 1]) rfl (fun _ => by kernel_rfl)) ?_; have S8 := Lib.hid (S7.out.alloc 5 (row .u8 [1, 2, 1])); clear S7)
  refine (add_st (D := [2, 4, 29]) (l := [1, 2, 1]) (by decide) (by decide) (S8.out.blk mem4) (S8.out.blk mem3) rfl rfl (B8.of_all (by decide)) (B8.of_all (by decide)) (by decide) (S8.out.rd mem0) (S8.out.ne 4 3 rfl rfl (by decide))).mono ?_
  rintro e w9 ⟨rfl, hh⟩
  have h9 := S8.out.callN (N1 := [_, _, _]) hh; clear hh S8
  try simp only [List.nil_append, List.cons_append, List.append_eq, Int.toNat_natCast] at h9
  rw [m2] at h9
  have S9 := Lib.hid h9; clear h9
  go_wp2_with ((with_reducible refine at_slot (N := 30) rfl ?_); refine evg rfl (bslice_run _ 5 3 _ (row .u8 [0, 0, 31]) rfl (fun _ => by kernel_rfl)) ?_; have S10 := Lib.hid (S9.out.alloc 5 (row .u8 [0, 0, 31])); clear S9)
  refine (equal_st (l := [0, 0, 31]) rfl (by decide) (S10.out.rd mem4) (S10.out.rd mem0)).mono ?_
  rintro e w11 ⟨rfl, hh⟩
  have h11 := S10.out.call hh; clear hh S10
  try simp only [List.nil_append, List.cons_append, List.append_eq, Int.toNat_natCast] at h11
  have S11 := Lib.hid h11; clear h11
  have S12 := Lib.hid (S11.out.drop (.cons _ (.cons _ (.cons _ (.cons _ (.cons _ (.cons_cons _ (List.Sublist.refl _)))))))); clear S11
  go_wp2_with fail
  go_ret
  exact ⟨_, rfl, S12.out⟩

/-- A piece of a list, from od on, becomes c times src. -/
theorem mul_off {kb : Nat} {c : Int} {bd od n cd : Nat} {A : Option Addr} {cs : Nat} {D l : List Nat} {w : World} (hc0 : 0 ≤ c) (hc : c < 256) (hkb : Blk w kb 52 (row .u8 tabL)) (hd : Bytes w bd D) (hD : od + n ≤ D.length) (hl : l.length = n) (h8 : B8 l) (hD8 : B8 D) (hnm : n ≤ 281474976710656)
    (hs : Rd w A l) (hne : kb ≠ bd) (hal : ∀ b o, A = some ⟨b, o, none⟩ → b ≠ bd ∨ od ≤ o) :
    Calls Try.prog 14 #[.pointer (some ⟨kb, 0, none⟩), .int .u8 c, .slice (some ⟨bd, od, none⟩) n cd, .slice A n cs] w fun e w' => e = .returned (.int .i64 0) ∧ St w w' [bt bd (Wr.wr D od (l.map (gm c.toNat)))] [] := by
  obtain ⟨c, rfl⟩ := Int.eq_ofNat_of_zero_le hc0
  exact mul_at c kb bd od n cd A cs D l w (by omega) hkb hd hne hD hl h8 hD8 hnm hs hal

theorem wr_pieces {n p : Nat} {l : List Nat} {f : Nat → Nat} (hl : l.length = n) (hp : p ≤ n) : Wr.wr (Wr.wr (zs n) p ((l.drop p).map f)) 0 ((l.take p).map f) = l.map f := by
  apply List.ext_getElem?
  intro j
  have hz := zs_length n
  have h1 : ((l.drop p).map f).length = n - p := by rw [List.length_map, List.length_drop, hl]
  have h2 : ((l.take p).map f).length = p := by rw [List.length_map, List.length_take, hl]; omega
  rw [wr_get _ _ _ _ (by rw [wr_length, h2, hz]; omega), wr_get _ _ _ _ (by rw [h1, hz]; omega), h1, h2]
  by_cases hj : j < p
  · rw [if_pos (by omega)]
    simp [List.getElem?_take, hj]
  · rw [if_neg (by omega)]
    by_cases hj2 : j < n
    · rw [if_pos (by omega)]
      simp [show p + (j - p) = j from by omega]
    · rw [if_neg (by omega), List.getElem?_eq_none (by rw [hz]; omega), List.getElem?_eq_none (by rw [List.length_map, hl]; omega)]

theorem mul2_any (a b : Int) (w : World) (ha : 0 ≤ a) (ha' : a < 256) (hb : 0 ≤ b) (hb' : b < 256) :
    Calls Try.prog 17 #[.int .u8 a, .int .u8 b] w fun e w' => e = .returned (.int .u8 ((Gf.gm a.toNat b.toNat : Nat) : Int)) ∧ w = w' := G8.mul_any a b w ha ha' hb hb'

end Go.Proofs.Ytgmoaemkdoeeiaa.L5t
