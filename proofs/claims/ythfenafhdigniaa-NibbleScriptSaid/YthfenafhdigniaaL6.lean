/- The functions of layer 6's laws (culletlaw06): each one's contract, by its walk. -/
import Derived.Test.YthfenafhdigniaaNm
import Derived.Test.YthfenafhdigniaaKk
import Derived.Test.YthfenafhdigniaaSa
namespace Go.Proofs.Ythfenafhdigniaa.L6
set_option linter.unusedSimpArgs false
set_option linter.unusedVariables false
open Go Go.RowKit Go.Proofs.Ythfenafhdigniaa Go.Proofs.Ythfenafhdigniaa.Mm Go.Proofs.Ythfenafhdigniaa.Gf Go.Proofs.Ythfenafhdigniaa.Wr Go.Proofs.Ythfenafhdigniaa.Nb

set_option maxRecDepth 100000 in
set_option maxHeartbeats 1000000 in
theorem equal_calls (A1 A2 : Option Addr) (m c1 c2 : Nat) (l : List Nat) (w : World) (hm : l.length = m) (hl : m ≤ 9223372036854775807) (h1 : Rd w A1 l) (h2 : Rd w A2 l) :
    Calls Try.prog 14 #[.slice A1 m c1, .slice A2 m c2] w fun e w' => e = .returned (.bool true) ∧ ∃ n, w' = w.drewN n := by
  subst hm
  have H1 := Lib.hid h1; have H2 := Lib.hid h2
  clear h1 h2
  go_enter Try.func14, Try.ntmps14
  go_wp2
  go_loopw [13] (fun vi wr => ∃ i n : Nat, i ≤ l.length ∧ vi = .int .i64 i ∧ wr = w.drewN n) (fun vi _ => l.length - (intOf vi).toNat)
  case atStart => exact ⟨0, 0, by omega, rfl, rfl⟩
  case round =>
    obtain ⟨i, n, hi, rfl, rfl⟩ := hrel
    by_cases hlt : i < l.length
    · obtain ⟨b1, o1, e1, k1⟩ := H1.out (by omega)
      obtain ⟨b2, o2, e2, k2⟩ := H2.out (by omega)
      subst e1 e2
      have m1 := k1 i hlt
      have m2 := k2 i hlt
      clear k1 k2 H1 H2
      go_wp2
      go_quiet (fail)
      go_wp2
      go_roundw
      case rel => exact ⟨i + 1, _, by omega, by go_num, rfl⟩
      case measure => simp [intOf]; omega
    · clear H1 H2
      go_wp2
      go_ret
      exact ⟨rfl, n, rfl⟩

set_option maxRecDepth 100000 in
set_option maxHeartbeats 1000000 in
theorem copied_calls (A : Option Addr) (m c : Nat) (l : List Nat) (w : World) (hm : l.length = m) (hl : m ≤ 281474976710656) (h : Rd w A l) :
    Calls Try.prog 13 #[.slice A m c] w fun e w' => e = .returned (.slice (some ⟨w.heap.size, 0, none⟩) m m) ∧ Bytes w' w.heap.size l ∧ Below w.heap.size w w' := by
  subst hm
  have H := Lib.hid h
  clear h
  go_enter Try.func13, Try.ntmps13
  go_wp2_with ((with_reducible refine at_slot (N := 7) rfl ?_); refine ev rfl (make_run 22 5 _ _ .u8 .i64 .i64 l.length l.length 1 rfl rfl rfl Try.underlying22 info_u8 (Nat.le_refl _) (by omega) (by omega)) ?_)
  go_loopw [10] (fun vi wr => ∃ i : Nat, i ≤ l.length ∧ vi = .int .i64 i ∧ Bytes wr w.heap.size (fill (fun i => l.getD i 0) l.length i) ∧ Below w.heap.size w wr) (fun vi _ => l.length - (intOf vi).toNat)
  case atStart => exact ⟨0, by omega, rfl, by rw [fill_zero]; exact Blk.new _ _ _, (Below.refl _ _).alloc (Nat.le_refl _) _⟩
  case round =>
    obtain ⟨i, hi, rfl, hr, hb⟩ := hrel
    by_cases hlt : i < l.length
    · obtain ⟨b1, o1, e1, k1⟩ := H.out (by omega)
      subst e1
      have m1 := k1 i hlt
      rw [← hb.cell (p := ⟨b1, o1 + i, none⟩) (cell_lt m1)] at m1
      have h1 := hr.cellRow (i := i) (by rw [fill_length]; exact hlt)
      have f1 := hr.free (i := i)
      have HR := Lib.hid hr; have HB := Lib.hid hb
      clear k1 hr hb H
      generalize hx : l.getD i 0 = x at *
      have HX := Lib.hid hx
      clear hx
      go_wp2
      go_roundw
      case rel => exact ⟨i + 1, by omega, by go_num, by have := HR.out.setRow i x; rw [← HX.out, fill_step (f := fun i => l.getD i 0) hlt, HX.out] at this; exact this, HB.out.setCell (Nat.le_refl _) _⟩
      case measure => simp [intOf]; omega
    · obtain rfl : i = l.length := by omega
      rw [fill_done] at hr
      have e : (List.range l.length).map (fun i => l.getD i 0) = l := by
        apply List.ext_getElem?
        intro j
        by_cases hj : j < l.length
        · simp [hj]
        · simp [hj]
      rw [e] at hr
      clear e
      go_wp2
      go_ret
      exact ⟨rfl, hr, hb⟩

theorem wr399 : Wr.wr [9, 9, 9] 0 ([143, 1, 0].map (gm (2 : Int).toNat)) = [3, 2, 0] := by decide +kernel
theorem cells_of {w : World} {b : Nat} {l : List Nat} (h : Bytes w b l) : ∀ i, i < l.length → w.cell? ⟨b, 0 + i, none⟩ = some (.int .u8 ((l.getD i 0 : Nat) : Int)) := fun i hi => by rw [Nat.zero_add]; exact h.cellRow hi

set_option maxRecDepth 100000 in
set_option maxHeartbeats 1000000 in
theorem fixed_calls (w : World) : Calls Try.prog 12 #[] w fun e w' => e = .returned (.bool true) ∧ Below w.heap.size w w' := by
  go_enter Try.func12, Try.ntmps12
  go_wp2_with fail
  refine (new_calls _).mono ?_
  rintro e w1 ⟨rfl, hb1⟩
  have HB1 := Lib.hid hb1
  clear hb1
  go_wp2_with (first
    | ((with_reducible refine at_slot (N := 7) rfl ?_); refine ev rfl (bslice_run _ 5 3 _ (row .u8 [9, 9, 9]) rfl (fun _ => by kernel_rfl)) ?_)
    | ((with_reducible refine at_slot (N := 10) rfl ?_); refine ev rfl (bslice_run _ 5 3 _ (row .u8 [143, 1, 0]) rfl (fun _ => by kernel_rfl)) ?_))
  refine (mul_any _ 2 _ 0 3 3 _ 0 3 [9, 9, 9] [143, 1, 0] _ (by decide) (by decide) (Blk.alloc _ (Blk.new w1 _ _)) (by decide) rfl (B8.of_all (by decide)) (B8.of_all (by decide)) (by decide) (cells_of (l := [143, 1, 0]) (blk_second w1 _ _ _)) (by simp) (.inl (by simp))).mono ?_
  rintro e w2 ⟨rfl, h2, hk2⟩
  rw [wr399] at h2
  have HB2 := Lib.hid ((HB1.out.trans (((Below.refl w1.heap.size w1).alloc (Nat.le_refl _) _).alloc (by simp) _ |>.mono HB1.out.size)).trans (hk2.below HB1.out.size (by have := HB1.out.size; simp; omega)))
  have H2 := Lib.hid h2
  clear h2 hk2
  go_wp2_with fail
  go_wp2_with ((with_reducible refine at_slot (N := 16) rfl ?_); refine evg rfl (bslice_run _ 5 3 _ (row .u8 [3, 2, 0]) rfl (fun _ => by kernel_rfl)) ?_)
  refine (equal_calls _ _ 3 3 3 [3, 2, 0] _ rfl (by decide) (Rd.of_blk (Blk.alloc _ H2.out)) (Rd.of_blk (Blk.new w2 _ _))).mono ?_
  rintro e w3 ⟨rfl, n3, rfl⟩
  go_wp2_with fail
  go_ret
  exact ⟨rfl, (HB2.out.alloc HB2.out.size _).drewN'⟩

set_option maxRecDepth 100000 in
set_option maxHeartbeats 1000000 in
theorem times_calls (p : Addr) (c : Int) (A : Option Addr) (m cs : Nat) (l : List Nat) (w : World) (hc0 : 0 ≤ c) (hc : c < 256) (hm : l.length = m) (hl : m ≤ 281474976710656) (h : Rd w A l) (h8 : B8 l) :
    Calls Try.prog 15 #[.pointer (some p), .int .u8 c, .slice A m cs] w fun e w' => e = .returned (.slice (some ⟨w.heap.size, 0, none⟩) m m) ∧ Bytes w' w.heap.size (l.map (gm c.toNat)) ∧ Below w.heap.size w w' := by
  have H := Lib.hid h; have H8 := Lib.hid h8; have HM := Lib.hid hm
  clear h h8 hm
  have hl2 : m ≤ 9223372036854775807 := by omega
  go_enter Try.func15, Try.ntmps15
  go_wp2_with ((with_reducible refine at_slot (N := 11) rfl ?_); refine ev rfl (make_run 22 5 _ _ .u8 .i64 .i64 m m 1 rfl rfl rfl Try.underlying22 info_u8 (Nat.le_refl _) (by omega) (by omega)) ?_)
  refine (copied_calls A m cs l _ HM.out hl (Rd.below H.out ((Below.refl _ _).alloc (Nat.le_refl _) _))).mono ?_
  rintro e w2 ⟨rfl, h2, hb2⟩
  have hz2 : w.heap.size + 1 ≤ w2.heap.size := by have := hb2.size; simpa using this
  have h2' : Bytes w2 (w.heap.size + 1) l := by simpa using h2
  have H2 := Lib.hid h2'
  clear h2'
  have HB2 := Lib.hid hb2
  have HO := Lib.hid ((Blk.new w (row .u8 (List.replicate m 0)) 5).below hb2 (by simp))
  clear h2 hb2
  go_wp2_with fail
  refine (mul_any p c w.heap.size 0 m m _ 0 m (List.replicate m 0) l _ hc0 hc (by exact HO.out) (by simp) HM.out H8.out (B8.zeros m) hl2 (by have := cells_of H2.out; rw [HM.out] at this; exact this) H2.out.lt (.inl (by omega))).mono ?_
  rintro e w3 ⟨rfl, h3, hk3⟩
  rw [wr_all _ _ (by simp [HM.out])] at h3
  go_wp2_with fail
  go_ret
  exact ⟨rfl, h3, (((Below.refl _ _).alloc (Nat.le_refl _) _).trans (HB2.out.mono (by simp))).trans (hk3.below (Nat.le_refl _) (by omega))⟩

set_option maxRecDepth 100000 in
set_option maxHeartbeats 1000000 in
theorem sum_calls (A1 A2 : Option Addr) (m c1 c2 : Nat) (l1 l2 : List Nat) (w : World) (hm1 : l1.length = m) (hm2 : l2.length = m) (hl : m ≤ 281474976710656) (h1 : Rd w A1 l1) (h2 : Rd w A2 l2) (h81 : B8 l1) (h82 : B8 l2) :
    Calls Try.prog 16 #[.slice A1 m c1, .slice A2 m c2] w fun e w' => e = .returned (.slice (some ⟨w.heap.size, 0, none⟩) m m) ∧ Bytes w' w.heap.size (xs l1 l2) ∧ Below w.heap.size w w' := by
  have hl2 : m ≤ 9223372036854775807 := by omega
  have H1 := Lib.hid h1; have H2 := Lib.hid h2; have H81 := Lib.hid h81; have H82 := Lib.hid h82; have HM1 := Lib.hid hm1; have HM2 := Lib.hid hm2
  clear h1 h2 h81 h82 hm1 hm2
  go_enter Try.func16, Try.ntmps16
  go_wp2_with fail
  refine (copied_calls A1 m c1 l1 _ HM1.out hl H1.out).mono ?_
  rintro e w2 ⟨rfl, h3, hb2⟩
  have H3 := Lib.hid h3; have HB2 := Lib.hid hb2
  clear h3 hb2
  go_wp2_with fail
  go_loopw [11] (fun vi wr => ∃ i : Nat, i ≤ m ∧ vi = .int .i64 i ∧ Bytes wr w.heap.size (Wr.wr l1 0 ((xs l1 l2).take i)) ∧ Below w.heap.size w wr) (fun vi _ => m - (intOf vi).toNat)
  case atStart => exact ⟨0, by omega, rfl, H3.out, HB2.out⟩
  case round =>
    clear H3 HB2
    obtain ⟨i, hi, rfl, hr, hb⟩ := hrel
    by_cases hlt : i < m
    · have hi1 : i < l1.length := by rw [HM1.out]; exact hlt
      have hi2 : i < l2.length := by rw [HM2.out]; exact hlt
      obtain ⟨b2, o2, e2, k2⟩ := H2.out (by omega)
      subst e2
      have m2 := k2 i hi2
      rw [← hb.cell (p := ⟨b2, o2 + i, none⟩) (cell_lt m2)] at m2
      have m1 := hr.cellRow (i := i) (by rw [wr_length]; exact hi1)
      have hg : (Wr.wr l1 0 ((xs l1 l2).take i)).getD i 0 = l1.getD i 0 := by
        rw [List.getD_eq_getElem?_getD, wr_get _ _ _ _ (by rw [List.length_take, xs_length]; omega), if_neg (by rw [List.length_take, xs_length]; omega), ← List.getD_eq_getElem?_getD]
      rw [hg] at m1
      have f1 := hr.free (i := i)
      have hx := H81.out.get hi1
      have hy := H82.out.get hi2
      have HG := Lib.hid (xs_get (l2 := l2) hi1)
      have HT := Lib.hid (wr_take_succ (D := l1) (o := 0) (vs := xs l1 l2) (i := i) (by rw [xs_length]; exact hi1))
      generalize l1.getD i 0 = x at *
      generalize l2.getD i 0 = y at *
      have x1 : Go.bits .xor .u8 (x : Int) (y : Int) = ((x ^^^ y : Nat) : Int) := Bt.xor8 hx hy
      have HR := Lib.hid hr; have HB := Lib.hid hb
      clear hr hb H1 H2 k2 hg hi1 hi2
      go_wp2_with fail
      go_region
      go_wp2_with fail
      go_roundw
      case rel =>
        refine ⟨i + 1, by omega, by go_num, ?_, (HB.out.setCell (Nat.le_refl _) _).drew⟩
        rw [HT.out, HG.out, Nat.zero_add]
        exact (HR.out.setRow _ _).drew
      case measure => simp [intOf]; omega
    · obtain rfl : i = m := by omega
      rw [List.take_of_length_le (by rw [xs_length, HM1.out]; exact Nat.le_refl _), wr_all _ _ (by rw [xs_length])] at hr
      clear H1 H2
      go_wp2_with fail
      go_ret
      exact ⟨rfl, hr, hb⟩

end Go.Proofs.Ythfenafhdigniaa.L6
