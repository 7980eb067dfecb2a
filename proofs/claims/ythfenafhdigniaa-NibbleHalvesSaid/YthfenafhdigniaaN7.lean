/- Layer 6: the document's Halves, and the law NibbleHalves. -/
import Derived.Test.YthfenafhdigniaaN6
namespace Go.Proofs.Ythfenafhdigniaa.L6
open Go Go.RowKit Go.Proofs.Ythfenafhdigniaa Go.Proofs.Ythfenafhdigniaa.Mm Go.Proofs.Ythfenafhdigniaa.Gf Go.Proofs.Ythfenafhdigniaa.Wr Go.Proofs.Ythfenafhdigniaa.Nb Go.Proofs.Ythfenafhdigniaa.St

theorem low_take {c i : Nat} (h : i < 16) : (lowL c).take (i + 1) = (lowL c).take i ++ [gm c i] := by
  rw [List.take_succ_eq_append_getElem (by rw [lowL_length]; exact h)]
  simp [lowL]
theorem high_take {c i : Nat} (h : i < 16) : (highL c).take (i + 1) = (highL c).take i ++ [gm c (16 * i)] := by
  rw [List.take_succ_eq_append_getElem (by rw [highL_length]; exact h)]
  simp [highL]

set_option maxRecDepth 100000 in
set_option maxHeartbeats 2000000 in
theorem ref_halves (c : Nat) (w : World) (hc : c < 256) : Calls Try.prog 19 #[.int .u8 c] w (Two w (lowL c) (highL c)) := by
  have S0 := Lib.hid (St.start w)
  go_enter Try.func19, Try.ntmps19
  go_wp2_with fail
  go_loopw [4, 5, 6] (fun v1 v2 vi wr => ∃ i G1 G2, i ≤ 16 ∧ vi = .int .i64 (i : Nat) ∧ St w wr [] (G2 ++ G1) ∧ GrowB v1 ((lowL c).take i) G1 ∧ GrowB v2 ((highL c).take i) G2) (fun _ _ vi _ => 16 - (intOf vi).toNat)
  case atStart => exact ⟨0, [], [], by omega, rfl, S0.out, GrowB.nil, GrowB.nil⟩
  case round =>
    clear S0
    obtain ⟨i, G1, G2, hi, rfl, hs, hg1, hg2⟩ := hrel
    have S1 := Lib.hid hs; have HG1 := Lib.hid hg1; have HG2 := Lib.hid hg2; clear hs hg1 hg2
    by_cases hlt : i < 16
    · have t1 : (i : Int) % 256 = (i : Int) := by omega
      have t2 : (16 * (i : Int)) % 256 = 16 * (i : Int) := by omega
      have t3 : (16 * (i : Int)).toNat = 16 * i := by omega
      have hg1 := gm_lt i hc
      have hg2 := gm_lt (16 * i) hc
      have HT1 := Lib.hid (low_take (c := c) hlt)
      have HT2 := Lib.hid (high_take (c := c) hlt)
      have HL1 : Hid (((lowL c).take i).length = i) := Lib.hid (by rw [List.length_take, lowL_length]; omega)
      have HL2 : Hid (((highL c).take i).length = i) := Lib.hid (by rw [List.length_take, highL_length]; omega)
      go_wp2_with (first
        | (go_at_call 30; refine (R2.mul_any _ _ _ (by omega) (by omega) (by omega) (by omega)).mono ?_; rintro e w' ⟨rfl, rfl⟩)
        | ((with_reducible refine at_slot (N := 17) rfl ?_); refine append_bytes (N := G2) (G := G1) rfl _ _ rfl _ _ rfl ((S1.out.skip (t := 5) (c := row .u8 [gm c i])).perm List.perm_append_comm) HG1.out (some ⟨wr.heap.size, 0, none⟩) 1 1 [gm c i] rfl rfl (Rd.of_blk (Blk.new wr _ _)) (fun y hy => by rw [List.mem_singleton] at hy; subst hy; exact hg1) (by rw [HL1.out]; simp; omega) ?_; intro v1' w2 G1' hs hg _; have S2 := Lib.hid hs; have HG1' := Lib.hid hg; clear hs hg)
        | ((with_reducible refine at_slot (N := 25) rfl ?_); refine append_bytes (N := G1') (G := G2) rfl _ _ rfl _ _ rfl ((S2.out.skip (t := 5) (c := row .u8 [gm c (16 * i)])).perm List.perm_append_comm) HG2.out (some ⟨w2.heap.size, 0, none⟩) 1 1 [gm c (16 * i)] rfl rfl (Rd.of_blk (Blk.new w2 _ _)) (fun y hy => by rw [List.mem_singleton] at hy; subst hy; exact hg2) (by rw [HL2.out]; simp; omega) ?_; intro v2' w3 G2' hs hg _; have S3 := Lib.hid hs; have HG2' := Lib.hid hg; clear hs hg))
      clear t1 t2 t3
      go_roundw
      case rel => exact ⟨i + 1, G1', G2', by omega, by go_num, S3.out, by rw [HT1.out]; exact HG1'.out, by rw [HT2.out]; exact HG2'.out⟩
      case measure => simp [intOf]; omega
    · obtain rfl : i = 16 := by omega
      rw [List.take_of_length_le (by rw [lowL_length]; exact Nat.le_refl _)] at HG1
      rw [List.take_of_length_le (by rw [highL_length]; exact Nat.le_refl _)] at HG2
      go_wp2_with fail
      go_ret2
      exact ⟨_, _, G1, G2, rfl, S1.out, HG1.out, HG2.out⟩

theorem GrowB.full {v : Value} {l : List Nat} {G : List Ent} (h : GrowB v l G) (h0 : 0 < l.length) : ∃ b D, v = .slice (some ⟨b, 0, none⟩) l.length D.length ∧ l.length ≤ D.length ∧ D.take l.length = l ∧ G = [bt b D] := by
  have hG : G ≠ [] := by
    intro e
    subst e
    rcases h.2 with ⟨_, _, h1, _⟩ | ⟨_, _, _, _, _, _, _, _, _, h1⟩
    · omega
    · simp at h1
  obtain ⟨b, D, h1, h2, _, _, h3, h4⟩ := h.some hG
  exact ⟨b, D, h1, h2, h3, h4⟩

set_option maxRecDepth 100000 in
set_option maxHeartbeats 4000000 in
theorem halves_walk (c : Nat) (A : Option Addr) (n cp : Nat) (l : List Nat) (w : World) (hc : c < 256) (h : (Kk.kSlice Kk.kByte 1).ok w.heap.size w [.slice A n cp] l) :
    Calls Try.prog 4 #[.int .u8 c, .slice A n cp] w fun e w' => e = .returned (.bool true) ∧ Below w.heap.size w w' := by
  obtain ⟨hn, hn2, _, hr, h8, _⟩ := open_bytes h
  clear h
  have hn3 : n ≤ 281474976710656 := by omega
  have HN := Lib.hid hn; have HR := Lib.hid hr; have H8 := Lib.hid h8
  clear hn hr h8
  have S0 := Lib.hid (St.start w)
  go_enter Try.func4, Try.ntmps4
  go_wp2_with fail
  refine (Halves_st c _ hc).mono ?_
  rintro e w1 ⟨v1, v2, G1, G2, rfl, hs, hg1, hg2⟩
  obtain ⟨b1, D1, rfl, p1, q1, rfl⟩ := GrowB.full hg1 (by rw [lowL_length]; decide)
  obtain ⟨b2, D2, rfl, p2, q2, rfl⟩ := GrowB.full hg2 (by rw [highL_length]; decide)
  rw [lowL_length] at *
  rw [highL_length] at *
  have S1 := Lib.hid (S0.out.call hs); have Q1 := Lib.hid q1; have Q2 := Lib.hid q2; clear hs hg1 hg2 q1 q2 S0
  go_wp2_with fail
  refine (ref_halves c _ hc).mono ?_
  rintro e w2 ⟨v3, v4, G3, G4, rfl, hs, hg3, hg4⟩
  obtain ⟨b3, D3, rfl, p3, q3, rfl⟩ := GrowB.full hg3 (by rw [lowL_length]; decide)
  obtain ⟨b4, D4, rfl, p4, q4, rfl⟩ := GrowB.full hg4 (by rw [highL_length]; decide)
  rw [lowL_length] at *
  rw [highL_length] at *
  have h2 := S1.out.call hs; simp only [List.nil_append, List.cons_append, List.append_nil, List.append_eq] at h2
  have S2 := Lib.hid h2; have Q3 := Lib.hid q3; have Q4 := Lib.hid q4; clear hs h2 hg3 hg4 q3 q4 S1
  go_wp2_with fail
  refine (fixed_st _).mono ?_
  rintro e w3 ⟨rfl, hh⟩
  have h3 := S2.out.call hh; clear hh S2
  try simp only [List.nil_append, List.cons_append, List.append_eq, Int.toNat_natCast] at h3
  have S3 := Lib.hid h3; clear h3
  go_wp2_with fail
  refine (equal_st (lowL_length c) (by decide) (S3.out.rdTake mem3 Q1.out) (S3.out.rdTake mem1 Q3.out)).mono ?_
  rintro e w4 ⟨rfl, hh⟩
  have h4 := S3.out.call hh; clear hh S3
  try simp only [List.nil_append, List.cons_append, List.append_eq, Int.toNat_natCast] at h4
  have S4 := Lib.hid h4; clear h4
  go_wp2_with fail
  refine (equal_st (highL_length c) (by decide) (S4.out.rdTake mem2 Q2.out) (S4.out.rdTake mem0 Q4.out)).mono ?_
  rintro e w5 ⟨rfl, hh⟩
  have h5 := S4.out.call hh; clear hh S4
  try simp only [List.nil_append, List.cons_append, List.append_eq, Int.toNat_natCast] at h5
  have S5 := Lib.hid h5; clear h5
  go_wp2_with ((with_reducible refine at_slot (N := 39) rfl ?_); refine ev rfl (make_run 22 5 _ _ .u8 .i64 .i64 n n 1 rfl rfl rfl Try.underlying22 info_u8 (Nat.le_refl _) (by omega) (by omega)) ?_)
  have h6 := S5.out.alloc 5 (row .u8 (List.replicate n 0)); clear S5
  obtain ⟨pb, hpb⟩ : ∃ pb, Hid (w5.heap.size = pb) := ⟨_, Lib.hid rfl⟩
  have S6 := Lib.hid h6; clear h6
  refine (new_st _).mono ?_
  rintro e w7 ⟨p, rfl, hh⟩
  have h7 := S6.out.call hh; clear hh S6
  try simp only [List.nil_append, List.cons_append, List.append_eq, Int.toNat_natCast] at h7
  have S7 := Lib.hid h7; clear h7
  go_wp2_with fail
  refine (copied_st HN.out hn3 (S7.out.ext HR.out)).mono ?_
  rintro e w8 ⟨s1, rfl, hh⟩
  have h8 := S7.out.call hh; clear hh S7
  try simp only [List.nil_append, List.cons_append, List.append_eq, Int.toNat_natCast] at h8
  have S8 := Lib.hid h8; clear h8
  go_wp2_with fail
  refine (mul_st (by omega) (by omega) (S8.out.blk mem1) (by simp) HN.out H8.out (B8.zeros n) hn3 (S8.out.rd mem0)).mono ?_
  rintro e w9 ⟨rfl, hh⟩
  have h9 := S8.out.callN (N1 := [_]) hh; clear hh S8
  try simp only [List.nil_append, List.cons_append, List.append_eq, Int.toNat_natCast] at h9
  have S9 := Lib.hid h9; clear h9
  go_wp2_with fail
  have H9 := S9
  clear S9
  go_loopw [48] (fun vi wr => ∃ i, i ≤ n ∧ vi = .int .i64 (i : Nat) ∧ St w wr [] [bt s1 l, bt w5.heap.size (l.map (gm c)), bt b4 D4, bt b3 D3, bt b2 D2, bt b1 D1]) (fun vi _ => n - (intOf vi).toNat)
  case atStart => exact ⟨0, by omega, rfl, H9.out⟩
  case round =>
    clear H9
    obtain ⟨i, hi, rfl, hs⟩ := hrel
    have S9 := Lib.hid hs; clear hs
    by_cases hlt : i < n
    · obtain ⟨bs, os, e1, k1⟩ := (S9.out.ext HR.out) (by rw [HN.out]; omega)
      subst e1
      have m1 := k1 i (by rw [HN.out]; exact hlt)
      have hx := H8.out.get (i := i) (by rw [HN.out]; exact hlt)
      clear k1
      have m2 := (S9.out.blk mem1).cellRow (i := i) (by rw [List.length_map, HN.out]; exact hlt)
      rw [show (l.map (gm c)).getD i 0 = gm c (l.getD i 0) from by simp [show i < l.length by rw [HN.out]; exact hlt]] at m2
      generalize l.getD i 0 = x at *
      have m3 := (S9.out.blk mem5).cellRow (i := x % 16) (by omega)
      rw [getD_take Q1.out (by rw [lowL_length]; omega), lowL_get (by omega)] at m3
      have m4 := (S9.out.blk mem4).cellRow (i := x / 16) (by omega)
      rw [getD_take Q2.out (by rw [highL_length]; omega), highL_get (by omega)] at m4
      have e1 : Go.bits .and .u8 (x : Int) 15 = (x : Int) % 16 := u8_and15 (x : Int) (by omega) (by omega)
      have e2 : Go.bits .xor .u8 ((gm c (x % 16) : Nat) : Int) ((gm c (16 * (x / 16)) : Nat) : Int) = ((gm c x : Nat) : Int) := by
        rw [Bt.xor8 (gm_lt _ hc) (gm_lt _ hc), halves_sum hx]
      have s1 : 0 ≤ (x : Int) % 16 := by omega
      have s2 : (x : Int) % 16 < 16 := by omega
      have s3 : ((x : Int) % 16).toNat = x % 16 := by omega
      have s4 : 0 ≤ (x : Int) / 16 := by omega
      have s5 : (x : Int) / 16 < 16 := by omega
      have s6 : ((x : Int) / 16).toNat = x / 16 := by omega
      have i0 : (0 : Int) ≤ (i : Int) := by omega
      have i1 : (i : Int) < (n : Int) := by omega
      go_wp2_with fail
      go_quiet (fail)
      clear m1 m2 m3 m4 e1 e2 s1 s2 s3 s4 s5 s6
      go_wp2_with fail
      go_roundw
      case rel => exact ⟨i + 1, by omega, by go_num, S9.out.drewN⟩
      case measure => simp [intOf]; omega
    · obtain rfl : i = n := by omega
      go_wp2_with fail
      go_ret
      exact ⟨rfl, S9.out.below⟩

end Go.Proofs.Ythfenafhdigniaa.L6
