/- The law TablePieces of layer 5: its walk. -/
import Derived.Test.YtgmoaemkdoeeiaaH5
namespace Go.Proofs.Ytgmoaemkdoeeiaa.L5t
open Go Go.RowKit Go.Proofs.Ytgmoaemkdoeeiaa Go.Proofs.Ytgmoaemkdoeeiaa.Mm Go.Proofs.Ytgmoaemkdoeeiaa.Gf Go.Proofs.Ytgmoaemkdoeeiaa.Wr Go.Proofs.Ytgmoaemkdoeeiaa.St Go.Proofs.Ytgmoaemkdoeeiaa.Tk

/-- A piece of a list, from od on, becomes c times src. -/
theorem mul_off {kb : Nat} {c : Int} {bd od n cd : Nat} {A : Option Addr} {cs : Nat} {D l : List Nat} {w : World} (hc0 : 0 ≤ c) (hc : c < 256) (hkb : Blk w kb 52 (row .u8 tabL)) (hd : Bytes w bd D) (hD : od + n ≤ D.length) (hl : l.length = n) (h8 : B8 l) (hD8 : B8 D) (hnm : n ≤ 281474976710656)
    (hs : Rd w A l) (hne : kb ≠ bd) (hal : ∀ b o, A = some ⟨b, o, none⟩ → b ≠ bd ∨ od ≤ o) :
    Calls Try.prog 14 #[.pointer (some ⟨kb, 0, none⟩), .int .u8 c, .slice (some ⟨bd, od, none⟩) n cd, .slice A n cs] w fun e w' => e = .returned (.int .i64 0) ∧ St w w' [bt bd (Wr.wr D od (l.map (gm c.toNat)))] [] := by
  obtain ⟨c, rfl⟩ := Int.eq_ofNat_of_zero_le hc0
  exact mul_at c kb bd od n cd A cs D l w (by omega) hkb hd hne hD hl h8 hD8 hnm hs hal

theorem wr_pieces {n p : Nat} {l : List Nat} {f : Nat → Nat} (hl : l.length = n) (hp : p ≤ n) : Wr.wr (Wr.wr (zs n) p ((l.drop p).map f)) 0 ((l.take p).map f) = l.map f := by
  apply List.ext_getElem?
  intro j
  have hz := zs_length n
  have h1 : ((l.drop p).map f).length = n - p := by rw [List.length_map, List.length_drop, hl]
  have h2 : ((l.take p).map f).length = p := by rw [List.length_map, List.length_take, hl]; omega
  rw [wr_get _ _ _ _ (by rw [wr_length, h2, hz]; omega), wr_get _ _ _ _ (by rw [h1, hz]; omega), h1, h2]
  by_cases hj : j < p
  · rw [if_pos (by omega)]
    simp [List.getElem?_take, hj]
  · rw [if_neg (by omega)]
    by_cases hj2 : j < n
    · rw [if_pos (by omega)]
      simp [show p + (j - p) = j from by omega]
    · rw [if_neg (by omega), List.getElem?_eq_none (by rw [hz]; omega), List.getElem?_eq_none (by rw [List.length_map, hl]; omega)]

theorem mul2_any (a b : Int) (w : World) (ha : 0 ≤ a) (ha' : a < 256) (hb : 0 ≤ b) (hb' : b < 256) :
    Calls Try.prog 17 #[.int .u8 a, .int .u8 b] w fun e w' => e = .returned (.int .u8 ((Gf.gm a.toNat b.toNat : Nat) : Int)) ∧ w = w' := G8.mul_any a b w ha ha' hb hb'

set_option maxRecDepth 100000 in
set_option maxHeartbeats 4000000 in
theorem pieces_walk (c b : Nat) (A : Option Addr) (n cp : Nat) (x : List Nat) (at_ : Int) (w : World) (hc : c < 256) (hb : b < 256) (h : (Kk.kSlice Kk.kByte 1).ok w.heap.size w [.slice A n cp] x) (hat : (Lit.int .i64 at_).wf = true) :
    Calls Try.prog 5 #[.int .u8 c, .int .u8 b, .slice A n cp, .int .i64 at_] w fun e w' => e = .returned (.bool true) ∧ Below w.heap.size w w' := by
  obtain ⟨hn, hn1, hcap1, hr, h8, _⟩ := open_bytes h
  clear h
  have HN := Lib.hid hn; have HR := Lib.hid hr; have H8 := Lib.hid h8
  clear hn hr h8
  have hn3 : n ≤ 281474976710656 := by omega
  obtain ⟨t, ht⟩ : ∃ t, at_.tmod ((n : Int) + 1) = t := ⟨_, rfl⟩
  have t1 : -((n : Int) + 1) < t := by
    rw [← ht]
    have := Int.lt_tmod_of_pos at_ (b := (n : Int) + 1) (by omega)
    omega
  have t2 : t < (n : Int) + 1 := by
    rw [← ht]
    exact Int.tmod_lt_of_pos at_ (by omega)
  obtain ⟨p, hp⟩ : ∃ p : Nat, (t + (n : Int) + 1) % ((n : Int) + 1) = p := by
    have h0 := Int.emod_nonneg (t + (n : Int) + 1) (b := (n : Int) + 1) (by omega)
    exact ⟨((t + (n : Int) + 1) % ((n : Int) + 1)).toNat, by omega⟩
  have hp1 : p ≤ n := by
    have h0 := Int.emod_lt_of_pos (t + (n : Int) + 1) (b := (n : Int) + 1) (by omega)
    omega
  clear hat
  have S0 := Lib.hid (St.start w)
  go_enter Try.func5, Try.ntmps5
  go_wp2_with fail
  refine (awake_st _).mono ?_
  rintro e w1 ⟨kb, rfl, hh⟩
  have h1 := S0.out.call hh; clear hh S0
  try simp only [List.nil_append, List.cons_append, List.append_eq, Int.toNat_natCast] at h1
  have S1 := Lib.hid h1; clear h1
  go_wp2_with fail
  refine (zeros_st hn3).mono ?_
  rintro e w2 ⟨wb, rfl, hh⟩
  have h2 := S1.out.call hh; clear hh S1
  try simp only [List.nil_append, List.cons_append, List.append_eq, Int.toNat_natCast] at h2
  have S2 := Lib.hid h2; clear h2
  go_wp2_with fail
  refine (zeros_st hn3).mono ?_
  rintro e w3 ⟨cb, rfl, hh⟩
  have h3 := S2.out.call hh; clear hh S2
  try simp only [List.nil_append, List.cons_append, List.append_eq, Int.toNat_natCast] at h3
  have S3 := Lib.hid h3; clear h3
  go_wp2_with fail
  clear ht hp
  have HZ : Hid ((zs n).length = n) := Lib.hid (zs_length n)
  have HXM : Hid ((x.map (gm c)).length = n) := Lib.hid (by rw [List.length_map, HN.out])
  have S4 := Lib.hid S3.out.drew
  clear S3
  have p0 : (0 : Int) ≤ (p : Int) := by omega
  have p1 : (p : Int) ≤ (n : Int) := by omega
  have p2 : (p : Int) ≤ (cp : Int) := by omega
  rcases Nat.lt_or_ge p n with hlt | hge
  case' inl =>
    obtain ⟨ab, ao, eA, k1⟩ := HR.out (by rw [HN.out]; omega)
    have hab := cell_lt (k1 0 (by rw [HN.out]; omega))
    subst eA
    clear k1
    have g1 : ¬ n = p := by omega
    have g2 : ¬ cp = p := by omega
    have g3 : ¬ cp = 0 := by omega
    have g4 : ¬ n = 0 := by omega
    have HRD : Hid (Rd w (some ⟨ab, ao + p, none⟩) (x.drop p)) := Lib.hid (by have := HR.out.piece p (n - p); rw [List.take_of_length_le (by rw [List.length_drop, HN.out]; omega)] at this; exact this)
    have HRT : Hid (Rd w (some ⟨ab, ao, none⟩) (x.take p)) := Lib.hid (by have := HR.out.piece 0 p; rw [List.drop_zero] at this; exact this)
    have HLD : Hid ((x.drop p).length = n - p) := Lib.hid (by rw [List.length_drop, HN.out])
    have HLT : Hid ((x.take p).length = p) := Lib.hid (by rw [List.length_take, HN.out]; omega)
    have HW : Hid (Wr.wr (Wr.wr (zs n) p ((x.drop p).map (gm c))) 0 ((x.take p).map (gm c)) = x.map (gm c)) := Lib.hid (wr_pieces HN.out (by omega))
    have hpn : p + (n - p) ≤ n := by omega
    have hnp : n - p ≤ 281474976710656 := by omega
    have hp8 : B8 (Wr.wr (zs n) p ((x.drop p).map (gm c))) := wr_b8 (zs_b8 n) (map_b8 hc)
    have HP8 := Lib.hid hp8
    have c0 : (0 : Int) ≤ (c : Int) := by omega
    have c1 : (c : Int) < 256 := by omega
    clear hp8
    go_region_held3 (fun _ => True) (trivial) (first
      | (go_at_call 14; refine (mul_st c0 c1 (S4.out.blk mem2) (S4.out.blk mem1) HZ.out HN.out H8.out (zs_b8 n) hn3 (S4.out.ext HR.out) (S4.out.ne 2 1 rfl rfl (by decide))).mono ?_; rintro e w5 ⟨rfl, hh⟩; have S5 := Lib.hid (S4.out.callN (N1 := [_]) hh); clear hh S4)
      | (go_at_call 14; refine (mul_off (od := p) (n := n - p) c0 c1 (S5.out.blk mem2) (S5.out.blk mem0) (by rw [HZ.out]; exact hpn) HLD.out (H8.out.drop p) (zs_b8 n) hnp (S5.out.ext HRD.out) (S5.out.ne 2 0 rfl rfl (by decide)) (fun b' o' e' => .inl (by injection e' with e'; injection e' with e1 _ _; have := S5.out.ge mem0; omega))).mono ?_; rintro e w6 ⟨rfl, hh⟩; have S6 := Lib.hid (S5.out.callN (N1 := []) hh); clear hh S5)
      | (go_at_call 14; refine (mul_off (od := 0) (n := p) c0 c1 (S6.out.blk mem2) (S6.out.blk mem0) (by rw [wr_length, HZ.out]; omega) HLT.out (H8.out.take p) HP8.out (by omega) (S6.out.ext HRT.out) (S6.out.ne 2 0 rfl rfl (by decide)) (fun b' o' e' => .inr (Nat.zero_le _))).mono ?_; rintro e w7 ⟨rfl, hh⟩; have S7 := Lib.hid (S6.out.callN (N1 := []) hh); rw [Int.toNat_natCast, HW.out] at S7; clear hh S6)
      | (go_at_call 16; refine (equal_st HXM.out hn3 (S7.out.rd mem1) (S7.out.rd mem0)).mono ?_; rintro e w8 ⟨rfl, hh⟩; have S8 := Lib.hid (S7.out.call hh); clear hh S7))
  case' inr =>
    obtain rfl : n = p := by omega
    have c0 : (0 : Int) ≤ (c : Int) := by omega
    have c1 : (c : Int) < 256 := by omega
    by_cases hcn : cp = n
    all_goals go_region_held3 (fun _ => True) (trivial) (first
      | (go_at_call 14; refine (mul_st c0 c1 (S4.out.blk mem2) (S4.out.blk mem1) HZ.out HN.out H8.out (zs_b8 n) hn3 (S4.out.ext HR.out) (S4.out.ne 2 1 rfl rfl (by decide))).mono ?_; rintro e w5 ⟨rfl, hh⟩; have S5 := Lib.hid (S4.out.callN (N1 := [_]) hh); clear hh S4)
      | (go_at_call 14; refine (mul_off (od := 0) (n := 0) (l := []) c0 c1 (S5.out.blk mem2) (S5.out.blk mem0) (Nat.zero_le _) rfl (fun _ h => by simp at h) (zs_b8 n) (by decide) (Rd.nil _ _) (S5.out.ne 2 0 rfl rfl (by decide)) (fun b' o' e' => .inr (Nat.zero_le _))).mono ?_; rintro e w6 ⟨rfl, hh⟩; have S6 := Lib.hid (S5.out.callN (N1 := []) hh); clear hh S5)
      | (go_at_call 14; refine (mul_st c0 c1 (S6.out.blk mem2) (S6.out.blk mem0) HZ.out HN.out H8.out (zs_b8 n) hn3 (S6.out.ext HR.out) (S6.out.ne 2 0 rfl rfl (by decide))).mono ?_; rintro e w7 ⟨rfl, hh⟩; have S7 := Lib.hid (S6.out.callN (N1 := []) hh); rw [Int.toNat_natCast] at S7; clear hh S6)
      | (go_at_call 16; refine (equal_st HXM.out hn3 (S7.out.rd mem1) (S7.out.rd mem0)).mono ?_; rintro e w8 ⟨rfl, hh⟩; have S8 := Lib.hid (S7.out.call hh); clear hh S7))
  all_goals
    have HXMM : Hid (((x.map (gm c)).map (gm b)).length = n) := Lib.hid (by rw [List.length_map, HXM.out])
    have HA : Hid (x.map (gm (gm b c)) = (x.map (gm c)).map (gm b)) := Lib.hid (map_assoc hb hc H8.out)
    have hm8 : B8 (x.map (gm c)) := map_b8 hc
    have HM8 := Lib.hid hm8
    have hgbc := gm_lt c hb
    clear hm8
    go_wp2_with fail
    refine (mul_st (by omega) (by omega) (S8.out.blk mem2) (S8.out.blk mem0) HXM.out HXM.out HM8.out HM8.out hn3 (S8.out.rd mem1) (S8.out.ne 2 0 rfl rfl (by decide))).mono ?_
    rintro e w9 ⟨rfl, hh⟩
    have h9 := S8.out.callN (N1 := []) hh; clear hh S8
    try simp only [List.nil_append, List.cons_append, List.append_eq, Int.toNat_natCast] at h9
    have S9 := Lib.hid h9; clear h9
    go_wp2_with fail
    refine (mul2_any _ _ _ (by omega) (by omega) (by omega) (by omega)).mono ?_
    rintro e _ ⟨rfl, rfl⟩
    go_wp2_with fail
    refine (mul_st (by omega) (by omega) (S9.out.blk mem2) (S9.out.blk mem1) HXM.out HN.out H8.out HM8.out hn3 (S9.out.ext HR.out) (S9.out.ne 2 1 rfl rfl (by decide))).mono ?_
    rintro e w10 ⟨rfl, hh⟩
    have h10 := S9.out.callN (N1 := [_]) hh; clear hh S9
    try simp only [List.nil_append, List.cons_append, List.append_eq, Int.toNat_natCast] at h10
    rw [HA.out] at h10
    have S10 := Lib.hid h10; clear h10
    go_wp2_with fail
    refine (equal_st HXMM.out hn3 (S10.out.rd mem1) (S10.out.rd mem0)).mono ?_
    rintro e w11 ⟨rfl, hh⟩
    have h11 := S10.out.call hh; clear hh S10
    try simp only [List.nil_append, List.cons_append, List.append_eq, Int.toNat_natCast] at h11
    have S11 := Lib.hid h11; clear h11
    go_wp2_with fail
    go_ret
    exact ⟨rfl, S11.out.below⟩

end Go.Proofs.Ytgmoaemkdoeeiaa.L5t
