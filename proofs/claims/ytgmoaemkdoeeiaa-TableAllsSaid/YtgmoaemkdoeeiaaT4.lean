/- The law TableBack of layer 5: its walk. -/
import Derived.Test.YtgmoaemkdoeeiaaH5
namespace Go.Proofs.Ytgmoaemkdoeeiaa.L5t
open Go Go.RowKit Go.Proofs.Ytgmoaemkdoeeiaa Go.Proofs.Ytgmoaemkdoeeiaa.Mm Go.Proofs.Ytgmoaemkdoeeiaa.Gf Go.Proofs.Ytgmoaemkdoeeiaa.Wr Go.Proofs.Ytgmoaemkdoeeiaa.St Go.Proofs.Ytgmoaemkdoeeiaa.Tk

/-- Two lists of bytes that are the same but within a piece. -/
def Lap (D D' : List Nat) (od n : Nat) : Prop := D'.length = D.length ∧ B8 D' ∧ ∀ j, (j < od ∨ od + n ≤ j) → D'.getD j 0 = D.getD j 0
theorem Lap.set {D D' : List Nat} {od n i v : Nat} (h : Lap D D' od n) (hi : i < n) (hv : v < 256) : Lap D (D'.set (od + i) v) od n :=
  ⟨by rw [List.length_set]; exact h.1, b8_set h.2.1 hv, fun j hj => by
    rw [← h.2.2 j hj, List.getD_eq_getElem?_getD, List.getElem?_set, if_neg (by omega), ← List.getD_eq_getElem?_getD]⟩

/-- What a call leaves that writes over a piece whatever it finds. -/
def LapR (w : World) (bd : Nat) (D : List Nat) (od n : Nat) (e : Ending) (w' : World) : Prop := ∃ D', e = .returned (.int .i64 0) ∧ Lap D D' od n ∧ St w w' [bt bd D'] []

set_option maxRecDepth 100000 in
set_option maxHeartbeats 2000000 in
theorem mul_lap {c kb bd od os n cd cs : Nat} {D : List Nat} {w : World} (hc : c < 256) (hkb : Blk w kb 52 (row .u8 tabL)) (hd : Bytes w bd D) (hne : kb ≠ bd) (hn : od + n ≤ D.length) (hos : os + n ≤ D.length) (hD8 : B8 D) (hnm : n ≤ 281474976710656) :
    Calls Try.prog 14 #[.pointer (some ⟨kb, 0, none⟩), .int .u8 c, .slice (some ⟨bd, od, none⟩) n cd, .slice (some ⟨bd, os, none⟩) n cs] w (LapR w bd D od n) := by
  have HK := Lib.hid hkb; have HD8 := Lib.hid hD8; have HN := Lib.hid hn; have HOS := Lib.hid hos
  have S0 := Lib.hid (St.start1 hd)
  have HL0 : Hid (Lap D D od n) := Lib.hid ⟨rfl, hD8, fun _ _ => rfl⟩
  clear hd hn hos hD8 hkb
  go_enter Try.func14, Try.ntmps14
  go_wp2_with fail
  refine (refuses_ok _ _ _ n _ _ _).mono ?_
  rintro e _ ⟨rfl, rfl⟩
  have c0 : (0 : Int) ≤ (c : Int) := by omega
  have c1 : (c : Int) < 256 := by omega
  go_wp2_with fail
  go_loopw [27] (fun vi wq => ∃ i D', i ≤ n ∧ vi = .int .i64 (i : Nat) ∧ Lap D D' od n ∧ St w wq [bt bd D'] []) (fun vi _ => n - (intOf vi).toNat)
  case atStart => exact ⟨0, D, by omega, rfl, HL0.out, S0.out⟩
  case round =>
    clear S0 HL0
    obtain ⟨i, D', hi, rfl, hl, hs⟩ := hrel
    have S1 := Lib.hid hs; have HL := Lib.hid hl; clear hs hl
    by_cases hlt : i < n
    · have m1 := (S1.out.blkW mem0).cellRow (i := os + i) (by rw [HL.out.1]; have := HOS.out; omega)
      have hx := HL.out.2.1.get (i := os + i) (by rw [HL.out.1]; have := HOS.out; omega)
      have m4 := (S1.out.blkW mem0).cellRow (i := od + i) (by rw [HL.out.1]; have := HN.out; omega)
      have hy := HL.out.2.1.get (i := od + i) (by rw [HL.out.1]; have := HN.out; omega)
      have f4 := (S1.out.blkW mem0).free (i := od + i)
      generalize D'.getD (os + i) 0 = x at *
      generalize D'.getD (od + i) 0 = y at *
      have m2 := (S1.out.keepB HK.out (fun e he => by rw [List.mem_singleton] at he; subst he; exact fun h => hne h.symm)).cellRow (i := c * 256 + x) (by rw [tabL_length]; omega)
      rw [tabL_get hc hx] at m2
      have x0 : (0 : Int) ≤ (x : Int) := by omega
      have x1 : (x : Int) < 256 := by omega
      have hv : gm c x < 256 := gm_lt _ hc
      go_wp2_with fail
      go_roundw
      case rel => exact ⟨i + 1, D'.set (od + i) (gm c x), by omega, by go_num, HL.out.set hlt hv, S1.out.setRowW (W1 := []) _ _⟩
      case measure => simp [intOf]; omega
    · obtain rfl : i = n := by omega
      go_wp2_with fail
      go_ret
      exact ⟨D', rfl, HL.out, S1.out⟩

set_option maxRecDepth 100000 in
set_option maxHeartbeats 2000000 in
theorem add_lap {c kb bd od os n cd cs : Nat} {D : List Nat} {w : World} (hc : c < 256) (hkb : Blk w kb 52 (row .u8 tabL)) (hd : Bytes w bd D) (hne : kb ≠ bd) (hn : od + n ≤ D.length) (hos : os + n ≤ D.length) (hD8 : B8 D) (hnm : n ≤ 281474976710656) :
    Calls Try.prog 15 #[.pointer (some ⟨kb, 0, none⟩), .int .u8 c, .slice (some ⟨bd, od, none⟩) n cd, .slice (some ⟨bd, os, none⟩) n cs] w (LapR w bd D od n) := by
  have HK := Lib.hid hkb; have HD8 := Lib.hid hD8; have HN := Lib.hid hn; have HOS := Lib.hid hos
  have S0 := Lib.hid (St.start1 hd)
  have HL0 : Hid (Lap D D od n) := Lib.hid ⟨rfl, hD8, fun _ _ => rfl⟩
  clear hd hn hos hD8 hkb
  go_enter Try.func15, Try.ntmps15
  go_wp2_with fail
  refine (refuses_ok _ _ _ n _ _ _).mono ?_
  rintro e _ ⟨rfl, rfl⟩
  have c0 : (0 : Int) ≤ (c : Int) := by omega
  have c1 : (c : Int) < 256 := by omega
  go_wp2_with fail
  go_loopw [27] (fun vi wq => ∃ i D', i ≤ n ∧ vi = .int .i64 (i : Nat) ∧ Lap D D' od n ∧ St w wq [bt bd D'] []) (fun vi _ => n - (intOf vi).toNat)
  case atStart => exact ⟨0, D, by omega, rfl, HL0.out, S0.out⟩
  case round =>
    clear S0 HL0
    obtain ⟨i, D', hi, rfl, hl, hs⟩ := hrel
    have S1 := Lib.hid hs; have HL := Lib.hid hl; clear hs hl
    by_cases hlt : i < n
    · have m1 := (S1.out.blkW mem0).cellRow (i := os + i) (by rw [HL.out.1]; have := HOS.out; omega)
      have hx := HL.out.2.1.get (i := os + i) (by rw [HL.out.1]; have := HOS.out; omega)
      have m4 := (S1.out.blkW mem0).cellRow (i := od + i) (by rw [HL.out.1]; have := HN.out; omega)
      have hy := HL.out.2.1.get (i := od + i) (by rw [HL.out.1]; have := HN.out; omega)
      have f4 := (S1.out.blkW mem0).free (i := od + i)
      generalize D'.getD (os + i) 0 = x at *
      generalize D'.getD (od + i) 0 = y at *
      have m2 := (S1.out.keepB HK.out (fun e he => by rw [List.mem_singleton] at he; subst he; exact fun h => hne h.symm)).cellRow (i := c * 256 + x) (by rw [tabL_length]; omega)
      rw [tabL_get hc hx] at m2
      have x0 : (0 : Int) ≤ (x : Int) := by omega
      have x1 : (x : Int) < 256 := by omega
      have e3 : Go.bits .xor .u8 (y : Int) ((gm c x : Nat) : Int) = ((y ^^^ gm c x : Nat) : Int) := Bt.xor8 hy (gm_lt _ hc)
      have hv : y ^^^ gm c x < 256 := xor_lt hy (gm_lt _ hc)
      go_wp2_with fail
      go_region
      clear e3
      go_wp2_with fail
      go_roundw
      case rel => exact ⟨i + 1, D'.set (od + i) (y ^^^ gm c x), by omega, by go_num, HL.out.set hlt hv, (S1.out.setRowW (W1 := []) _ _).drew⟩
      case measure => simp [intOf]; omega
    · obtain rfl : i = n := by omega
      go_wp2_with fail
      go_ret
      exact ⟨D', rfl, HL.out, S1.out⟩

/-- .. is added to a list of which the head is known. -/
theorem add_offs {kb : Nat} {c : Int} {bd n cd : Nat} {A : Option Addr} {cs : Nat} {D y l : List Nat} {w : World} (hc0 : 0 ≤ c) (hc : c < 256) (hkb : Blk w kb 52 (row .u8 tabL)) (hd : Bytes w bd D) (hD : n ≤ D.length) (hy : D.take n = y) (hl : l.length = n) (h8 : B8 l) (hD8 : B8 D) (hnm : n ≤ 281474976710656)
    (hs : Rd w A l) (hne : kb ≠ bd) :
    Calls Try.prog 15 #[.pointer (some ⟨kb, 0, none⟩), .int .u8 c, .slice (some ⟨bd, 0, none⟩) n cd, .slice A n cs] w fun e w' => e = .returned (.int .i64 0) ∧ St w w' [bt bd (Wr.wr D 0 (xs y (l.map (gm c.toNat))))] [] := by
  obtain ⟨c, rfl⟩ := Int.eq_ofNat_of_zero_le hc0
  refine (add_at c kb bd 0 n cd A cs D l w (by omega) hkb hd hne (by omega) hl h8 hD8 hnm hs (fun b o _ => .inr (Nat.zero_le _))).mono fun e w' ⟨he, hm⟩ => ⟨he, ?_⟩
  have hyl : y.length = n := by rw [← hy, List.length_take]; omega
  have e1 : ((List.range n).map fun i => D.getD (0 + i) 0 ^^^ gm c (l.getD i 0)) = xs y (l.map (gm c)) := by
    unfold xs
    rw [hyl]
    apply List.map_congr_left
    intro i hi
    have hi' : i < n := by simpa using hi
    rw [Nat.zero_add, getD_take hy (by rw [hyl]; exact hi')]
    simp [show i < l.length by omega]
  rw [e1] at hm
  exact hm
theorem wr_take {D l : List Nat} (h : l.length ≤ D.length) : (Wr.wr D 0 l).take l.length = l := by
  apply List.ext_getElem?
  intro j
  rw [List.getElem?_take]
  by_cases hj : j < l.length
  · rw [if_pos hj, wr_get _ _ _ _ (by omega), if_pos (by omega)]; rfl
  · rw [if_neg hj, List.getElem?_eq_none (by omega)]

theorem b7 : B8 [7] := B8.of_all (by decide)
theorem b129 : B8 [1, 2, 9] := B8.of_all (by decide)

set_option maxRecDepth 100000 in
set_option maxHeartbeats 4000000 in
theorem lapped_st {kb c : Nat} {A : Option Addr} {n cp : Nat} {x : List Nat} {w : World} (hc : c < 256) (hkb : Blk w kb 52 (row .u8 tabL)) (hx : x.length = n) (hn : n ≤ 140737488351232) (hr : Rd w A x) (h8 : B8 x) :
    Calls Try.prog 26 #[.pointer (some ⟨kb, 0, none⟩), .int .u8 c, .slice A n cp] w fun e w' => e = .returned (.bool true) ∧ St w w' [] [] := by
  have HK := Lib.hid hkb; have HN := Lib.hid hx; have HR := Lib.hid hr; have H8 := Lib.hid h8
  have hkl := hkb.lt
  clear hkb hx hr h8
  have S0 := Lib.hid (St.start w)
  go_enter Try.func26, Try.ntmps26
  go_wp2_with (first
    | ((with_reducible refine at_slot (N := 9) rfl ?_); refine ev rfl (bslice_run _ 5 1 _ (row .u8 [7]) rfl (fun _ => by kernel_rfl)) ?_; have S1 := Lib.hid (S0.out.alloc 5 (row .u8 [7])); clear S0)
    | ((with_reducible refine at_slot (N := 11) rfl ?_); refine append_on rfl _ _ rfl w.heap.size 1 [7] [7] rfl rfl S1.out (Nat.le_refl _) (by decide) b7 rfl A n cp x rfl HN.out (S1.out.ext HR.out) H8.out (by omega) ?_; intro b1 D1 w2 q1 q2 q3 q4 hs; have S2 := Lib.hid hs; have Q3 := Lib.hid q3; have Q4 := Lib.hid q4; clear hs q3 q4 S1)
    | ((with_reducible refine at_slot (N := 13) rfl ?_); refine ev rfl (bslice_run _ 5 3 _ (row .u8 [1, 2, 9]) rfl (fun _ => by kernel_rfl)) ?_)
    | ((with_reducible refine at_slot (N := 14) rfl ?_); refine append_on rfl _ _ rfl b1 (1 + n) D1 ([7] ++ x) (by rw [List.length_append, HN.out]; rfl) rfl S2.out.skip q1 q2 Q3.out Q4.out (some ⟨w2.heap.size, 0, none⟩) 3 3 [1, 2, 9] rfl rfl (Rd.of_blk (Blk.new w2 _ _)) b129 (by omega) ?_; intro wb D w3 q5 q6 q7 q8 hs; have S3 := Lib.hid hs; have Q7 := Lib.hid q7; have Q8 := Lib.hid q8; clear hs q7 q8 S2))
  obtain ⟨M, hM⟩ : ∃ M, n + 1 = M := ⟨_, rfl⟩
  obtain ⟨N, hN⟩ : ∃ N, 1 + n + 3 = N := ⟨_, rfl⟩
  have hNM : N = M + 3 := by omega
  have HD0 : Hid (D.getD 0 0 = 7) := Lib.hid (by rw [getD_take Q8.out (by simp)]; simp)
  have HD9 : Hid (D.getD (N - 1) 0 = 9) := Lib.hid (by
    rw [getD_take Q8.out (by rw [List.length_append, List.length_append, HN.out]; simp; omega), List.getD_eq_getElem?_getD, List.getElem?_append_right (by rw [List.length_append, HN.out]; simp; omega)]
    rw [List.length_append, HN.out, show N - 1 - ([7].length + n) = 2 from by simp; omega]
    rfl)
  have hMb : M ≤ 281474976710656 := by omega
  have hDl : M + 3 ≤ D.length := by omega
  have eN : (1 : Int) + (n : Int) + 3 = (N : Int) := by omega
  have s1 : IntKind.i64.wrap ((N : Int) - 1) = (N : Int) - 1 := IntWalk.i64_in _ (by omega)
  have s2 : IntKind.i64.wrap ((N : Int) - 2) = (N : Int) - 2 := IntWalk.i64_in _ (by omega)
  have t1 : ((N : Int) - 1).toNat = N - 1 := by omega
  have t2 : ((N : Int) - 2).toNat = N - 2 := by omega
  have u1 : (0 : Int) ≤ (N : Int) - 1 := by omega
  have u2 : (0 : Int) ≤ (N : Int) - 2 := by omega
  have u3 : (2 : Int) ≤ (N : Int) - 1 := by omega
  have u4 : (1 : Int) ≤ (N : Int) - 2 := by omega
  have u5 : (N : Int) - 1 ≤ (D.length : Int) := by omega
  have u6 : (N : Int) - 2 ≤ (D.length : Int) := by omega
  have v1 : 2 ≤ N - 1 := by omega
  have v2 : 1 ≤ N - 2 := by omega
  have v3 : (N : Int) - 1 < (N : Int) := by omega
  have v4 : (0 : Int) < (N : Int) := by omega
  have v5 : N - 1 < N := by omega
  have v6 : 0 < N := by omega
  have y1 : (1 : Int) ≤ (N : Int) := by omega
  have y2 : 1 ≤ N := by omega
  have y3 : (2 : Int) ≤ (N : Int) := by omega
  have f1 : N - 1 - 2 = M := by omega
  have f2 : N - 2 - 1 = M := by omega
  have g1 : ¬ D.length = 2 := by omega
  have g2 : ¬ D.length = 1 := by omega
  have HNM := Lib.hid hNM; have HMN := Lib.hid hM
  clear hNM hM
  have S3d := Lib.hid S3.out.drew
  clear S3
  have m0 := (S3d.out.blk mem0).cellRow (i := 0) (by omega)
  have m9 := (S3d.out.blk mem0).cellRow (i := N - 1) (by omega)
  rw [HD0.out] at m0
  rw [HD9.out] at m9
  have SS : ∀ w' : World, w'.cell? ⟨wb, 0, none⟩ = some (.int .u8 ((7 : Nat) : Int)) → w'.cell? ⟨wb, N - 1, none⟩ = some (.int .u8 ((9 : Nat) : Int)) → (w'.cell? ⟨wb, 0, none⟩ = some (.int .u8 7) ∧ w'.cell? ⟨wb, N - 1, none⟩ = some (.int .u8 9)) := fun w' a b => ⟨a, b⟩
  have HSS := Lib.hid SS
  clear SS
  go_region_held3 (fun w' => w'.cell? ⟨wb, 0, none⟩ = some (.int .u8 7) ∧ w'.cell? ⟨wb, N - 1, none⟩ = some (.int .u8 9)) (exact HSS.out _ (by assumption) (by assumption)) (first
    | (go_at_call 14; refine (mul_lap (od := 2) (os := 1) (n := M) hc (S3d.out.keep0 HK.out) (S3d.out.blk mem0) (S3d.out.ne0 hkl mem0) (by omega) (by omega) Q7.out hMb).mono ?_; rintro e w4 ⟨D', rfl, hl, hh⟩; have L4 := Lib.hid hl; have S4 := Lib.hid (S3d.out.callN (N1 := []) hh); clear hl hh S3d m0 m9; have m0 := (S4.out.blk mem0).cellRow (i := 0) (by rw [L4.out.1]; omega); have m9 := (S4.out.blk mem0).cellRow (i := N - 1) (by rw [L4.out.1]; omega); rw [L4.out.2.2 _ (.inl (by omega)), HD0.out] at m0; rw [L4.out.2.2 _ (.inr (by have := HNM.out; omega)), HD9.out] at m9)
    | (go_at_call 15; refine (add_lap (od := 1) (os := 2) (n := M) hc (S4.out.keep0 HK.out) (S4.out.blk mem0) (S4.out.ne0 hkl mem0) (by rw [L4.out.1]; omega) (by rw [L4.out.1]; omega) L4.out.2.1 hMb).mono ?_; rintro e w5 ⟨D'', rfl, hl, hh⟩; have L5 := Lib.hid hl; have S5 := Lib.hid (S4.out.callN (N1 := []) hh); clear hl hh S4 m0 m9; have m0 := (S5.out.blk mem0).cellRow (i := 0) (by rw [L5.out.1, L4.out.1]; omega); have m9 := (S5.out.blk mem0).cellRow (i := N - 1) (by rw [L5.out.1, L4.out.1]; omega); rw [L5.out.2.2 _ (.inl (by omega)), L4.out.2.2 _ (.inl (by omega)), HD0.out] at m0; rw [L5.out.2.2 _ (.inr (by omega)), L4.out.2.2 _ (.inr (by have := HNM.out; omega)), HD9.out] at m9))
  go_wp2_with fail
  go_ret
  exact ⟨rfl, S5.out.nil⟩

theorem inv_nz (c : Nat) (w : World) (hc : c < 256) (h0 : c ≠ 0) : Calls Try.prog 27 #[.int .u8 c] w fun e w' => e = .returned (.tuple #[.int .u8 ((pw c 254 : Nat) : Int), .int .i64 0]) ∧ w = w' :=
  (G8.inv_calls c w hc).mono fun e w' ⟨he, hw⟩ => ⟨by rw [he]; unfold two iv; rw [if_neg h0], hw⟩

theorem inv_z {c : Nat} (h : c = 0) (w : World) : Calls Try.prog 27 #[.int .u8 (c : Int)] w fun e w' => e = .returned (.tuple #[.int .u8 0, .int .i64 20]) ∧ w = w' := by
  subst h
  exact (G8.inv_calls 0 w (by decide)).mono fun e w' ⟨he, hw⟩ => ⟨by rw [he]; rfl, hw⟩

set_option maxRecDepth 100000 in
set_option maxHeartbeats 4000000 in
theorem back_walk (c : Nat) (A : Option Addr) (n cp : Nat) (x : List Nat) (w : World) (hc : c < 256) (h : (Kk.kSlice Kk.kByte 1).ok w.heap.size w [.slice A n cp] x) :
    Calls Try.prog 10 #[.int .u8 c, .slice A n cp] w fun e w' => e = .returned (.bool true) ∧ Below w.heap.size w w' := by
  obtain ⟨hn, hn1, hcap1, hr, h8, _⟩ := open_bytes h
  clear h
  have HN := Lib.hid hn; have HR := Lib.hid hr; have H8 := Lib.hid h8
  clear hn hr h8
  have hn3 : n ≤ 281474976710656 := by omega
  have HM1 : Hid ((x.map (gm c)).length = n) := Lib.hid (by rw [List.length_map, HN.out])
  have H1 : Hid (x.map (gm 1) = x) := Lib.hid (map_one H8.out)
  have hm8 : B8 (x.map (gm c)) := map_b8 hc
  have HM8 := Lib.hid hm8
  clear hm8
  have S0 := Lib.hid (St.start w)
  go_enter Try.func10, Try.ntmps10
  go_wp2_with fail
  refine (awake_st _).mono ?_
  rintro e w1 ⟨kb, rfl, hh⟩
  have h1 := S0.out.call hh; clear hh S0
  try simp only [List.nil_append, List.cons_append, List.append_eq, Int.toNat_natCast] at h1
  have S1 := Lib.hid h1; clear h1
  go_wp2_with (first
    | ((with_reducible refine at_slot (N := 12) rfl ?_); refine ev rfl (bslice_run _ 5 0 _ (row .u8 []) rfl (fun _ => by kernel_rfl)) ?_; have S2 := Lib.hid (S1.out.alloc 5 (row .u8 [])); clear S1)
    | ((with_reducible refine at_slot (N := 14) rfl ?_); refine append_clone rfl _ _ rfl w1.heap.size rfl S2.out A n cp x rfl HN.out (S2.out.ext HR.out) H8.out (by omega) ?_; intro db D w3 q1 q2 q3 q4 hs; have S3 := Lib.hid hs; have Q3 := Lib.hid q3; have Q4 := Lib.hid q4; clear hs q3 q4 S2))
  have WT : Hid (∀ (D : List Nat) (l : List Nat), l.length = n → n ≤ D.length → (Wr.wr D 0 l).take n = l) := Lib.hid (fun D l hl hD => by subst hl; exact wr_take hD)
  refine (lapped_st hc (S3.out.blk mem1) HN.out hn1 (S3.out.ext HR.out) H8.out).mono ?_
  rintro e w4 ⟨rfl, hh⟩
  have h4 := S3.out.call hh; clear hh S3
  try simp only [List.nil_append, List.cons_append, List.append_eq, Int.toNat_natCast] at h4
  have S4 := Lib.hid h4; clear h4
  go_wp2_with fail
  refine (mul_off (od := 0) (by decide) (by decide) (S4.out.blk mem1) (S4.out.blk mem0) (by omega) HN.out H8.out Q3.out hn3 (S4.out.ext HR.out) (S4.out.ne 1 0 rfl rfl (by decide)) (fun _ _ _ => .inr (Nat.zero_le _))).mono ?_
  rintro e w5 ⟨rfl, hh⟩
  have h5 := S4.out.callN (N1 := []) hh; clear hh S4
  try simp only [List.nil_append, List.cons_append, List.append_eq, Int.toNat_natCast] at h5
  rw [show (1 : Int).toNat = 1 from rfl, H1.out] at h5
  have S5 := Lib.hid h5; clear h5
  have Q5 : Hid ((Wr.wr D 0 x).take n = x) := Lib.hid (WT.out _ _ HN.out q1)
  have q6 : n ≤ (Wr.wr D 0 x).length := by rw [wr_length]; exact q1
  have Q7 : Hid (B8 (Wr.wr D 0 x)) := Lib.hid (wr_b8 Q3.out H8.out)
  have q8 : (Wr.wr D 0 x).length = D.length := wr_length _ _ _
  have Q8 := Lib.hid q8
  clear q8
  go_wp2_with fail
  refine (equal_st HN.out hn3 (S5.out.rdTake mem0 Q5.out) (S5.out.ext HR.out)).mono ?_
  rintro e w6 ⟨rfl, hh⟩
  have h6 := S5.out.call hh; clear hh S5
  try simp only [List.nil_append, List.cons_append, List.append_eq, Int.toNat_natCast] at h6
  have S6 := Lib.hid h6; clear h6
  go_wp2_with fail
  refine (mul_off (od := 0) (by omega) (by omega) (S6.out.blk mem1) (S6.out.blk mem0) (by omega) HN.out H8.out Q7.out hn3 (S6.out.rdTake mem0 Q5.out) (S6.out.ne 1 0 rfl rfl (by decide)) (fun _ _ _ => .inr (Nat.zero_le _))).mono ?_
  rintro e w7 ⟨rfl, hh⟩
  have h7 := S6.out.callN (N1 := []) hh; clear hh S6
  try simp only [List.nil_append, List.cons_append, List.append_eq, Int.toNat_natCast] at h7
  have S7 := Lib.hid h7; clear h7
  have Q9 : Hid ((Wr.wr (Wr.wr D 0 x) 0 (x.map (gm c))).take n = x.map (gm c)) := Lib.hid (WT.out _ _ HM1.out q6)
  have q10 : n ≤ (Wr.wr (Wr.wr D 0 x) 0 (x.map (gm c))).length := by rw [wr_length]; exact q6
  have Q11 : Hid (B8 (Wr.wr (Wr.wr D 0 x) 0 (x.map (gm c)))) := Lib.hid (wr_b8 Q7.out HM8.out)
  generalize Wr.wr (Wr.wr D 0 x) 0 (x.map (gm c)) = E at *
  by_cases h0 : c = 0
  · have H0 := Lib.hid h0
    have HZ : Hid (x.map (gm c) = zs n) := Lib.hid (by rw [H0.out, map_zero, HN.out]; rfl)
    clear h0
    go_wp2_with fail
    refine (inv_z H0.out _).mono ?_
    rintro e _ ⟨rfl, rfl⟩
    go_wp2_with fail
    refine (zeros_st hn3).mono ?_
    rintro e w8 ⟨zb, rfl, hh⟩
    have h8 := S7.out.call hh; clear hh S7
    try simp only [List.nil_append, List.cons_append, List.append_eq, Int.toNat_natCast] at h8
    have S8 := Lib.hid h8; clear h8
    rw [HZ.out] at Q9
    go_wp2_with fail
    refine (equal_st (zs_length n) hn3 (S8.out.rdTake mem1 Q9.out) (S8.out.rd mem0)).mono ?_
    rintro e w9 ⟨rfl, hh⟩
    have h9 := S8.out.call hh; clear hh S8
    try simp only [List.nil_append, List.cons_append, List.append_eq, Int.toNat_natCast] at h9
    have S9 := Lib.hid h9; clear h9
    go_wp2_with fail
    go_ret
    exact ⟨rfl, S9.out.below⟩
  · have hp := pw_lt hc 254
    have HB := Lib.hid (map_back hc h0 H8.out)
    have H0 := Lib.hid h0
    clear h0
    go_wp2_with fail
    refine (inv_nz c _ hc H0.out).mono ?_
    rintro e _ ⟨rfl, rfl⟩
    go_wp2_with fail
    refine (mul_off (od := 0) (by omega) (by omega) (S7.out.blk mem1) (S7.out.blk mem0) (by omega) HM1.out HM8.out Q11.out hn3 (S7.out.rdTake mem0 Q9.out) (S7.out.ne 1 0 rfl rfl (by decide)) (fun _ _ _ => .inr (Nat.zero_le _))).mono ?_
    rintro e w8 ⟨rfl, hh⟩
    have h8 := S7.out.callN (N1 := []) hh; clear hh S7
    try simp only [List.nil_append, List.cons_append, List.append_eq, Int.toNat_natCast] at h8
    rw [HB.out] at h8
    have S8 := Lib.hid h8; clear h8
    have Q12 : Hid ((Wr.wr E 0 x).take n = x) := Lib.hid (WT.out _ _ HN.out q10)
    have q13 : n ≤ (Wr.wr E 0 x).length := by rw [wr_length]; exact q10
    have Q14 : Hid (B8 (Wr.wr E 0 x)) := Lib.hid (wr_b8 Q11.out H8.out)
    go_wp2_with fail
    refine (equal_st HN.out hn3 (S8.out.rdTake mem0 Q12.out) (S8.out.ext HR.out)).mono ?_
    rintro e w9 ⟨rfl, hh⟩
    have h9 := S8.out.call hh; clear hh S8
    try simp only [List.nil_append, List.cons_append, List.append_eq, Int.toNat_natCast] at h9
    have S9 := Lib.hid h9; clear h9
    go_wp2_with fail
    refine (add_offs (by decide) (by decide) (S9.out.blk mem1) (S9.out.blk mem0) q13 Q12.out HN.out H8.out Q14.out hn3 (S9.out.rdTake mem0 Q12.out) (S9.out.ne 1 0 rfl rfl (by decide))).mono ?_
    rintro e w10 ⟨rfl, hh⟩
    have h10 := S9.out.callN (N1 := []) hh; clear hh S9
    try simp only [List.nil_append, List.cons_append, List.append_eq, Int.toNat_natCast] at h10
    rw [show (1 : Int).toNat = 1 from rfl, H1.out, xs_comm_self, HN.out] at h10
    have S10 := Lib.hid h10; clear h10
    have Q15 : Hid ((Wr.wr (Wr.wr E 0 x) 0 (List.replicate n 0)).take n = zs n) := Lib.hid (WT.out _ _ (zs_length n) q13)
    go_wp2_with fail
    refine (zeros_st hn3).mono ?_
    rintro e w11 ⟨zb, rfl, hh⟩
    have h11 := S10.out.call hh; clear hh S10
    try simp only [List.nil_append, List.cons_append, List.append_eq, Int.toNat_natCast] at h11
    have S11 := Lib.hid h11; clear h11
    go_wp2_with fail
    refine (equal_st (zs_length n) hn3 (S11.out.rdTake mem1 Q15.out) (S11.out.rd mem0)).mono ?_
    rintro e w12 ⟨rfl, hh⟩
    have h12 := S11.out.call hh; clear hh S11
    try simp only [List.nil_append, List.cons_append, List.append_eq, Int.toNat_natCast] at h12
    have S12 := Lib.hid h12; clear h12
    go_wp2_with fail
    go_ret
    exact ⟨rfl, S12.out.below⟩

end Go.Proofs.Ytgmoaemkdoeeiaa.L5t
