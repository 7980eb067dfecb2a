/- Layer 6: Halves, and the document's answers (culletref06), over St. -/
import Derived.Test.YthfenafhdigniaaNs
import Derived.Test.YthfenafhdigniaaR2
import Derived.Deep.RegionLaw
namespace Go.Proofs.Ythfenafhdigniaa.L6
set_option linter.unusedSimpArgs false
set_option linter.unusedVariables false
open Go Go.RowKit Go.Proofs.Ythfenafhdigniaa Go.Proofs.Ythfenafhdigniaa.Mm Go.Proofs.Ythfenafhdigniaa.Gf Go.Proofs.Ythfenafhdigniaa.Wr Go.Proofs.Ythfenafhdigniaa.Nb Go.Proofs.Ythfenafhdigniaa.St

theorem lowL_b8 {c : Nat} (hc : c < 256) : B8 (lowL c) := by
  intro x hx
  obtain ⟨y, _, rfl⟩ := List.mem_map.1 hx
  exact gm_lt _ hc
theorem highL_b8 {c : Nat} (hc : c < 256) : B8 (highL c) := by
  intro x hx
  obtain ⟨y, _, rfl⟩ := List.mem_map.1 hx
  exact gm_lt _ hc
theorem arr_rd {w : World} {b : Nat} {l : List Nat} (h : Arr16 w b l) : Rd w (some ⟨b, 0, none⟩) l := Rd.of_blk h

set_option maxRecDepth 100000 in
set_option maxHeartbeats 2000000 in
theorem Halves_st (c : Nat) (w : World) (hc : c < 256) : Calls Try.prog 18 #[.int .u8 c] w (Two w (lowL c) (highL c)) := by
  have S0 := Lib.hid (St.start w)
  go_enter Try.func18, Try.ntmps18
  go_wp2_with fail
  refine (halves_calls c _ hc).mono ?_
  rintro e w1 ⟨rfl, hb1⟩
  have S1 := Lib.hid (S0.out.call (.of_below hb1)); clear hb1 S0
  go_wp2_with (first
    | ((with_reducible refine at_slot (N := 4) rfl ?_); refine ev rfl (alloc_run _ (.agg (Array.replicate 16 (.int .u8 0))) (row .u8 (List.replicate 16 0)) rfl (by kernel_rfl) rfl) ?_)
    | ((with_reducible refine at_slot (N := 5) rfl ?_); refine ev rfl (alloc_run _ (.agg (Array.replicate 16 (.int .u8 0))) (row .u8 (List.replicate 16 0)) rfl (by kernel_rfl) rfl) ?_)
    | ((with_reducible refine at_store (p := 4) rfl ?_); refine store_blk rfl _ _ _ rfl w1.heap.size (row .u8 (lowL c)) rfl rfl _ _ (Blk.alloc _ (Blk.new w1 _ _)) (by rw [row_size, lowL_length]; kernel_rfl) (by rw [row_size, row_size, lowL_length]; rfl) (row_all _ _) ?_; intro w2 hs2 hk2; have HS2 := Lib.hid hs2; have HK2 := Lib.hid hk2; clear hs2 hk2)
    | ((with_reducible refine at_store (p := 5) rfl ?_); refine store_blk rfl _ _ _ rfl (w1.heap.size + 1) (row .u8 (highL c)) (by simp [go_sem]) rfl _ _ (HK2.out.blk (blk_second w1 _ _ _) (by omega)) (by rw [row_size, highL_length]; kernel_rfl) (by rw [row_size, row_size, highL_length]; rfl) (row_all _ _) ?_; intro w3 hs3 hk3; have HS3 := Lib.hid hs3; have HK3 := Lib.hid hk3; clear hs3 hk3))
  have h2 := (S1.out.alloc 57 (row .u8 (List.replicate 16 0))).alloc 57 (row .u8 (List.replicate 16 0))
  simp only [World.size_alloc] at h2
  have h3 := (h2.callN (N1 := [_]) (St.of_but HK2.out HS2.out (by simp; omega))).callN (N1 := []) (St.of_but HK3.out HS3.out (by have := HK2.out.size; simp at this; omega))
  simp only [List.nil_append, List.cons_append, List.append_eq] at h3
  have S3 := Lib.hid h3
  clear h2 h3 S1 HS2 HS3 HK2 HK3
  go_region_law (first
    | (refine step_append (G := []) (N := G1 ++ [⟨w1.heap.size + 1, 57, row .u8 (highL c)⟩, ⟨w1.heap.size, 57, row .u8 (lowL c)⟩]) rfl (.tmp 14) (.tmp 15) rfl (.slice _ 0 0) [] rfl (by first | exact S4.out.skip.skip.drew | exact S4.out.skip.drew | exact S4.out.drew | exact S4.out.skip.skip | exact S4.out.skip | exact S4.out) (Grow.none _ _ _ _) (some ⟨w1.heap.size + 1, 0, none⟩) 16 16 (highL c) rfl (highL_length c) (by first | exact (S4.out.skip.skip.drew.drop (List.sublist_append_right _ _)).rd mem0 | exact (S4.out.skip.drew.drop (List.sublist_append_right _ _)).rd mem0 | exact (S4.out.drew.drop (List.sublist_append_right _ _)).rd mem0 | exact (S4.out.skip.skip.drop (List.sublist_append_right _ _)).rd mem0 | exact (S4.out.skip.drop (List.sublist_append_right _ _)).rd mem0 | exact (S4.out.drop (List.sublist_append_right _ _)).rd mem0) (highL_b8 hc) (by rw [highL_length]; decide) ?_; intro v2 wb G2 hs hg _; have S5 := Lib.hid hs; have HG2 := Lib.hid hg; clear hs hg)
    | (refine step_append (G := []) (N := [⟨w1.heap.size + 1, 57, row .u8 (highL c)⟩, ⟨w1.heap.size, 57, row .u8 (lowL c)⟩]) rfl (.tmp 11) (.tmp 12) rfl (.slice _ 0 0) [] rfl (by first | exact S3.out.skip.skip.drew | exact S3.out.skip.drew | exact S3.out.drew | exact S3.out.skip.skip | exact S3.out.skip | exact S3.out) (Grow.none _ _ _ _) (some ⟨w1.heap.size, 0, none⟩) 16 16 (lowL c) rfl (lowL_length c) (by first | exact S3.out.skip.skip.drew.rd mem1 | exact S3.out.skip.drew.rd mem1 | exact S3.out.drew.rd mem1 | exact S3.out.skip.skip.rd mem1 | exact S3.out.skip.rd mem1 | exact S3.out.rd mem1) (lowL_b8 hc) (by rw [lowL_length]; decide) ?_; intro v1 wa G1 hs hg _; have S4 := Lib.hid hs; have HG1 := Lib.hid hg; clear hs hg))
  all_goals
    go_wp2_with fail
    go_ret2
    refine ⟨_, _, G1, G2, rfl, ?_, HG1.out, HG2.out⟩
    exact S5.out.drop (by rw [← List.append_assoc]; exact List.sublist_append_left _ _)

set_option maxRecDepth 100000 in
set_option maxHeartbeats 2000000 in
theorem ref_mul (c : Nat) (A1 A2 : Option Addr) (n c1 c2 : Nat) (D l : List Nat) (w : World) (hc : c < 256) (hl : l.length = n) (hn : n ≤ 140737488351232) (hs : Rd w A2 l) (h8 : B8 l) :
    Calls Try.prog 22 #[.int .u8 c, .slice A1 n c1, .slice A2 n c2] w (RefR w (l.map (gm c)) 0) := by
  have HL := Lib.hid hl; have HR := Lib.hid hs; have H8 := Lib.hid h8
  clear hl hs h8
  have S0 := Lib.hid (St.start w)
  go_enter Try.func22, Try.ntmps22
  go_wp2_with fail
  go_loopw [8, 20] (fun v vi wr => ∃ i G, i ≤ n ∧ vi = .int .i64 (i : Nat) ∧ St w wr [] G ∧ GrowB v ((l.take i).map (gm c)) G) (fun _ vi _ => n - (intOf vi).toNat)
  case atStart => exact ⟨0, [], by omega, rfl, S0.out, GrowB.nil⟩
  case round =>
    clear S0
    obtain ⟨i, G, hi, rfl, hs, hg⟩ := hrel
    have S1 := Lib.hid hs; have HG := Lib.hid hg; clear hs hg
    by_cases hlt : i < n
    · obtain ⟨b1, o1, e1, k1⟩ := (S1.out.ext HR.out) (by rw [HL.out]; omega)
      subst e1
      have m1 := k1 i (by rw [HL.out]; exact hlt)
      have hx := H8.out.get (i := i) (by rw [HL.out]; exact hlt)
      clear k1
      have HT : Hid ((l.take (i + 1)).map (gm c) = (l.take i).map (gm c) ++ [gm c (l.getD i 0)]) := Lib.hid (take_map_succ _ (by rw [HL.out]; exact hlt))
      have HTL : Hid (((l.take i).map (gm c)).length = i) := Lib.hid (by rw [List.length_map, List.length_take, HL.out]; omega)
      generalize l.getD i 0 = x at *
      have hgx := gm_lt x hc
      go_wp2_with (first
        | (go_at_call 30; refine (R2.mul_calls c x _ hc hx).mono ?_; rintro e w' ⟨rfl, rfl⟩)
        | ((with_reducible refine at_slot (N := 31) rfl ?_); refine append_bytes (N := []) (G := G) rfl _ _ rfl _ _ rfl (by rw [List.append_nil]; exact (S1.out.alloc 5 (row .u8 [gm c x])).drop (.cons _ (List.Sublist.refl _))) HG.out (some ⟨wr.heap.size, 0, none⟩) 1 1 [gm c x] rfl rfl (Rd.of_blk (Blk.new wr _ _)) (fun y hy => by rw [List.mem_singleton] at hy; subst hy; exact hgx) (by rw [HTL.out]; simp; omega) ?_; intro v' w' G' hs hg _; rw [List.append_nil] at hs; have S2 := Lib.hid hs; have HG2 := Lib.hid hg; clear hs hg))
      go_roundw
      case rel => exact ⟨i + 1, G', by omega, by go_num, S2.out, by rw [HT.out]; exact HG2.out⟩
      case measure => simp [intOf]; omega
    · obtain rfl : i = n := by omega
      rw [List.take_of_length_le (by rw [HL.out]; exact Nat.le_refl _)] at HG
      obtain ⟨A', cp', rfl⟩ := HG.out.shape
      go_wp2_with fail
      go_ret2
      exact ⟨A', cp', _, G, rfl, rfl, S1.out, HG.out⟩

set_option maxRecDepth 100000 in
set_option maxHeartbeats 2000000 in
theorem ref_mul_lens (c : Int) (A1 A2 : Option Addr) (n m c1 c2 : Nat) (D : List Nat) (w : World) (hD : D.length = n) (hn : n ≤ 140737488351232) (hs : Rd w A1 D) (h8 : B8 D) (hne : n ≠ m) :
    Calls Try.prog 22 #[.int .u8 c, .slice A1 n c1, .slice A2 m c2] w (RefR w D 6) := by
  have h1 : (n == m) = false := by simpa using hne
  have h2 : (((n : Nat) : Int) != ((m : Nat) : Int)) = true := by rw [bne_iff_ne]; omega
  have h3 : (n != m) = true := by rw [bne_iff_ne]; exact hne
  have HL := Lib.hid hD; have HR := Lib.hid hs; have H8 := Lib.hid h8
  clear hne hD hs h8
  have S0 := Lib.hid (St.start w)
  go_enter Try.func22, Try.ntmps22
  go_wp2_with ((with_reducible refine at_slot (N := 17) rfl ?_); refine append_bytes (N := []) (G := []) rfl _ _ rfl (.slice _ 0 0) [] rfl (S0.out.skip) (Grow.none _ _ _ _) A1 n c1 D rfl HL.out (S0.out.skip.ext HR.out) H8.out (by rw [HL.out]; simp; omega) ?_; intro v' w' G' hs hg _; rw [List.append_nil] at hs; have S2 := Lib.hid hs; have HG2 := Lib.hid hg; clear hs hg)
  obtain ⟨A', cp', rfl⟩ := HG2.out.shape
  go_ret2
  exact ⟨A', cp', _, G', rfl, rfl, S2.out, HG2.out⟩

set_option maxRecDepth 100000 in
set_option maxHeartbeats 2000000 in
theorem ref_add_lens (c : Int) (A1 A2 : Option Addr) (n m c1 c2 : Nat) (D : List Nat) (w : World) (hD : D.length = n) (hn : n ≤ 140737488351232) (hs : Rd w A1 D) (h8 : B8 D) (hne : n ≠ m) :
    Calls Try.prog 23 #[.int .u8 c, .slice A1 n c1, .slice A2 m c2] w (RefR w D 6) := by
  have h1 : (n == m) = false := by simpa using hne
  have h2 : (((n : Nat) : Int) != ((m : Nat) : Int)) = true := by rw [bne_iff_ne]; omega
  have h3 : (n != m) = true := by rw [bne_iff_ne]; exact hne
  have HL := Lib.hid hD; have HR := Lib.hid hs; have H8 := Lib.hid h8
  clear hne hD hs h8
  have S0 := Lib.hid (St.start w)
  go_enter Try.func23, Try.ntmps23
  go_wp2_with ((with_reducible refine at_slot (N := 17) rfl ?_); refine append_bytes (N := []) (G := []) rfl _ _ rfl (.slice _ 0 0) [] rfl (S0.out.skip) (Grow.none _ _ _ _) A1 n c1 D rfl HL.out (S0.out.skip.ext HR.out) H8.out (by rw [HL.out]; simp; omega) ?_; intro v' w' G' hs hg _; rw [List.append_nil] at hs; have S2 := Lib.hid hs; have HG2 := Lib.hid hg; clear hs hg)
  obtain ⟨A', cp', rfl⟩ := HG2.out.shape
  go_ret2
  exact ⟨A', cp', _, G', rfl, rfl, S2.out, HG2.out⟩

set_option maxRecDepth 100000 in
set_option maxHeartbeats 2000000 in
theorem ref_add (c : Nat) (A1 A2 : Option Addr) (n c1 c2 : Nat) (D l : List Nat) (w : World) (hc : c < 256) (hD : D.length = n) (hl : l.length = n) (hn : n ≤ 140737488351232) (hs1 : Rd w A1 D) (hs : Rd w A2 l) (h81 : B8 D) (h8 : B8 l) :
    Calls Try.prog 23 #[.int .u8 c, .slice A1 n c1, .slice A2 n c2] w (RefR w (xs D (l.map (gm c))) 0) := by
  have HL := Lib.hid hl; have HR := Lib.hid hs; have H8 := Lib.hid h8; have HD := Lib.hid hD; have HR1 := Lib.hid hs1; have H81 := Lib.hid h81
  clear hl hs h8 hD hs1 h81
  have S0 := Lib.hid (St.start w)
  go_enter Try.func23, Try.ntmps23
  go_wp2_with fail
  go_loopw [8, 20] (fun v vi wr => ∃ i G, i ≤ n ∧ vi = .int .i64 (i : Nat) ∧ St w wr [] G ∧ GrowB v ((xs D (l.map (gm c))).take i) G) (fun _ vi _ => n - (intOf vi).toNat)
  case atStart => exact ⟨0, [], by omega, rfl, S0.out, GrowB.nil⟩
  case round =>
    clear S0
    obtain ⟨i, G, hi, rfl, hs, hg⟩ := hrel
    have S1 := Lib.hid hs; have HG := Lib.hid hg; clear hs hg
    by_cases hlt : i < n
    · obtain ⟨b1, o1, e1, k1⟩ := (S1.out.ext HR.out) (by rw [HL.out]; omega)
      obtain ⟨b2, o2, e2, k2⟩ := (S1.out.ext HR1.out) (by rw [HD.out]; omega)
      subst e1 e2
      have m1 := k1 i (by rw [HL.out]; exact hlt)
      have m2 := k2 i (by rw [HD.out]; exact hlt)
      have hx := H8.out.get (i := i) (by rw [HL.out]; exact hlt)
      have hy := H81.out.get (i := i) (by rw [HD.out]; exact hlt)
      clear k1 k2
      have HT : Hid ((xs D (l.map (gm c))).take (i + 1) = (xs D (l.map (gm c))).take i ++ [D.getD i 0 ^^^ gm c (l.getD i 0)]) := Lib.hid (xs_take_succ (by rw [HD.out]; exact hlt) (by rw [HL.out]; exact hlt))
      have HTL : Hid (((xs D (l.map (gm c))).take i).length = i) := Lib.hid (by rw [List.length_take, xs_length, HD.out]; omega)
      generalize l.getD i 0 = x at *
      generalize D.getD i 0 = y at *
      have hgx := gm_lt x hc
      have x1 : Go.bits .xor .u8 (y : Int) ((gm c x : Nat) : Int) = ((y ^^^ gm c x : Nat) : Int) := Bt.xor8 hy hgx
      have hxy : y ^^^ gm c x < 256 := xor_lt hy hgx
      have i0 : (0 : Int) ≤ (i : Int) := by omega
      have i1 : (i : Int) < (n : Int) := by omega
      go_wp2_with fail
      go_region_law (first
        | (refine step_append (N := []) (G := G) rfl _ _ rfl _ _ rfl (by rw [List.append_nil]; first | exact S1.out.skip.drew | exact S1.out.drew.skip) HG.out (some ⟨wr.heap.size, 0, none⟩) 1 1 [y ^^^ gm c x] rfl rfl (by first | exact Rd.of_blk (Blk.new wr _ _).drew | exact Rd.of_blk (Blk.new wr.drew _ _)) (fun z hz => by rw [List.mem_singleton] at hz; subst hz; exact hxy) (by rw [HTL.out]; simp; omega) ?_; intro v' w' G' hs hg _; rw [List.append_nil] at hs; have S2 := Lib.hid hs; have HG2 := Lib.hid hg; clear hs hg)
        | (go_simp; go_at_call 30; refine (R2.mul_calls c x _ hc hx).mono ?_; rintro e w' ⟨rfl, rfl⟩))
      all_goals
        clear x1
        go_wp2_with fail
        go_roundw
        case rel => exact ⟨i + 1, G', by omega, by go_num, S2.out, by rw [HT.out]; exact HG2.out⟩
        case measure => simp [intOf]; omega
    · obtain rfl : i = n := by omega
      rw [List.take_of_length_le (by rw [xs_length, HD.out]; exact Nat.le_refl _)] at HG
      obtain ⟨A', cp', rfl⟩ := HG.out.shape
      go_wp2_with fail
      go_ret2
      exact ⟨A', cp', _, G, rfl, rfl, S1.out, HG.out⟩

end Go.Proofs.Ythfenafhdigniaa.L6
