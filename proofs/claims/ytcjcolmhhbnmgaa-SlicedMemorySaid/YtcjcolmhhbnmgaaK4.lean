/- The law SlicedTurns. -/
import Derived.Test.YtcjcolmhhbnmgaaSy
import Derived.Test.YtcjcolmhhbnmgaaAr
namespace Go.Proofs.Ytcjcolmhhbnmgaa.Sl
set_option linter.unusedSimpArgs false
set_option linter.unusedVariables false
open Go Go.RowKit Go.Proofs.Ytcjcolmhhbnmgaa Go.Proofs.Ytcjcolmhhbnmgaa.Mm Go.Proofs.Ytcjcolmhhbnmgaa.Gf Go.Proofs.Ytcjcolmhhbnmgaa.Wr Go.Proofs.Ytcjcolmhhbnmgaa.St Go.Proofs.Ytcjcolmhhbnmgaa.Wd

theorem pl_bit (l : List Nat) (b : Nat) : ∀ n j, (pl l b n).testBit j = (decide (j < n) && (l.getD j 0).testBit b)
  | 0, j => by simp [pl]
  | n + 1, j => by
    rw [pl, Nat.add_comm, Nat.mul_comm, Nat.testBit_two_pow_mul_add _ (pl_lt l b n), pl_bit l b n j]
    by_cases h : j < n
    · rw [if_pos h]; simp [h, show j < n + 1 by omega]
    · rw [if_neg h]
      by_cases h2 : j = n
      · subst h2
        simp [Nat.testBit, Nat.shiftRight_eq_div_pow, Nat.and_one_is_mod]
      · have h3 : ¬ j < n + 1 := by omega
        have h4 : ∃ k, j - n = k + 1 := ⟨j - n - 1, by omega⟩
        obtain ⟨k, hk⟩ := h4
        rw [hk, Nat.testBit_succ]
        simp [h3, show l.getD n 0 / 2 ^ b % 2 / 2 = 0 by omega]
theorem bit_eq (x b : Nat) : (x / 2 ^ b % 2 = 1) = (x.testBit b = true) := by
  simp [Nat.testBit, Nat.shiftRight_eq_div_pow, Nat.and_one_is_mod]
theorem pl_div {l : List Nat} {b j : Nat} (h : j < 64) : pl l b 64 / 2 ^ j % 2 = l.getD j 0 / 2 ^ b % 2 := by
  have h1 := pl_bit l b 64 j
  rw [show decide (j < 64) = true by simp [h], Bool.true_and] at h1
  have e1 := bit_eq (pl l b 64) j
  have e2 := bit_eq (l.getD j 0) b
  rw [h1] at e1
  have := e1.trans e2.symm
  have h3 : (pl l b 64 / 2 ^ j % 2 = 1) ↔ (l.getD j 0 / 2 ^ b % 2 = 1) := by rw [this]
  omega
theorem bb_mod {ps : List Nat} {j x : Nat} : ∀ k, (∀ b, b < k → ps.getD b 0 / 2 ^ j % 2 = x / 2 ^ b % 2) → bb ps j k = x % 2 ^ k
  | 0, _ => by simp [bb, Nat.mod_one]
  | k + 1, h => by
    rw [bb, bb_mod k (fun b hb => h b (by omega)), h k (by omega), Nat.pow_succ, Nat.mod_mul]
    rw [Nat.mul_comm]
theorem blk64_get {ps : List Nat} {j : Nat} (h : j < 64) : (blk64 ps).getD j 0 = bb ps j 8 := by
  rw [blk64, List.getD_eq_getElem?_getD, List.getElem?_map, List.getElem?_range h, Option.map_some, Option.getD_some]
theorem pls_get {l : List Nat} {b : Nat} (h : b < 8) : (pls l).getD b 0 = pl l b 64 := by
  rw [pls, List.getD_eq_getElem?_getD, List.getElem?_map, List.getElem?_range h, Option.map_some, Option.getD_some]
theorem blk_pls {l : List Nat} (hl : l.length = 64) (h8 : B8 l) : blk64 (pls l) = l := by
  apply ext8
  · rw [blk64_length, hl]
  · intro j hj
    rw [blk64_length] at hj
    rw [blk64_get hj, bb_mod (x := l.getD j 0) 8 (fun b hb => by rw [pls_get hb, pl_div hj])]
    have := h8.get (i := j) (by omega)
    omega

/-- The sum of those planes of l that bit b of the columns names, the first k of them. -/
def sm (c : Nat) (l : List Nat) (b : Nat) : Nat → Nat
  | 0 => 0
  | k + 1 => if gm c (2 ^ k) / 2 ^ b % 2 = 1 then sm c l b k ^^^ pl l k 64 else sm c l b k
theorem sm_lt (c : Nat) (l : List Nat) (b : Nat) : ∀ k, sm c l b k < 18446744073709551616
  | 0 => by simp [sm]
  | k + 1 => by
    rw [sm]
    split
    · exact Nat.xor_lt_two_pow (n := 64) (sm_lt c l b k) (pl_lt l k 64)
    · exact sm_lt c l b k
theorem sm_bit {c : Nat} {l : List Nat} {b j : Nat} (hj : j < 64) : ∀ k, (sm c l b k).testBit j = (cs c (l.getD j 0) k).testBit b
  | 0 => by simp [sm, cs]
  | k + 1 => by
    have e1 := bit_eq (gm c (2 ^ k)) b
    have e2 := bit_eq (l.getD j 0) k
    have e3 := pl_bit l k 64 j
    rw [show decide (j < 64) = true by simp [hj], Bool.true_and] at e3
    rw [sm, cs, Nat.testBit_xor, ← sm_bit hj k]
    by_cases h1 : (gm c (2 ^ k)).testBit b = true
    · rw [if_pos (by rw [e1]; exact h1), Nat.testBit_xor, e3]
      by_cases h2 : (l.getD j 0).testBit k = true
      · rw [if_pos (by rw [e2]; exact h2), h1, h2]
      · rw [if_neg (by rw [e2]; exact h2), Nat.zero_testBit]; have h3 := Bool.eq_false_iff.2 h2; rw [h3, Bool.xor_false]
    · rw [if_neg (by rw [e1]; exact h1)]
      by_cases h2 : (l.getD j 0).testBit k = true
      · rw [if_pos (by rw [e2]; exact h2)]; simp [h1]
      · rw [if_neg (by rw [e2]; exact h2)]; simp
theorem sm_done {c : Nat} {l : List Nat} {b : Nat} (hl : l.length = 64) (h8 : B8 l) : sm c l b 8 = pl (l.map (gm c)) b 64 := by
  apply Nat.eq_of_testBit_eq
  intro j
  by_cases hj : j < 64
  · rw [sm_bit hj, pl_bit, cs_all (h8.get (by omega))]
    simp [hj, show j < l.length by omega]
  · rw [Nat.testBit_lt_two_pow (Nat.lt_of_lt_of_le (show sm c l b 8 < 2 ^ 64 from sm_lt c l b 8) (Nat.pow_le_pow_right (by decide) (by omega))), Nat.testBit_lt_two_pow (Nat.lt_of_lt_of_le (pl_lt _ b 64) (Nat.pow_le_pow_right (by decide) (by omega)))]
theorem one8 : ((W8 ((b8 (72623859790382856 : Int).toNat).map (gm (1 : Int).toNat)) : Nat) : Int) = 72623859790382856 := by decide +kernel

theorem grow_cap {A : Option Addr} {n c : Nat} {l : List Nat} {G : List Ent} (h : GrowB (.slice A n c) l G) (hn : n = l.length) : n ≤ c := by
  rcases h.2 with ⟨B, e, h2, _⟩ | ⟨g, cap, cur, e, hnc, _⟩
  · injection e with e1 e2 e3; omega
  · injection e with e1 e2 e3; omega

set_option maxRecDepth 100000 in
set_option maxHeartbeats 4000000 in
theorem turns_walk (c : Nat) (cs : Array Value) (l : List Nat) (w : World) (hc : c < 256) (h : (Ar.kArrB 64).ok w.heap.size w cs.toList l) :
    Calls Try.prog 6 #[.int .u8 (c : Int), .agg cs] w fun e w' => e = .returned (.bool true) ∧ Below w.heap.size w w' := by
  obtain ⟨rfl, hl, h8⟩ := Ar.arr_of h
  have HL := Lib.hid hl; have H8 := Lib.hid h8
  have M8 : Hid (B8 (l.map (gm c))) := Lib.hid (map_b8 hc)
  have ML : Hid ((l.map (gm c)).length = 64) := Lib.hid (by rw [List.length_map, HL.out])
  have EB := Lib.hid (blk_pls HL.out H8.out)
  have SM : Hid (∀ b, b < 8 → (pls (l.map (gm c))).getD b 0 = sm c l b 8) := Lib.hid (fun b hb => by rw [pls_get hb, sm_done HL.out H8.out])
  clear h hl h8
  have S0 := Lib.hid (St.start w)
  go_enter Try.func6, Try.ntmps6
  go_wp2_with ((with_reducible refine at_slot (N := 3) rfl ?_); refine box_law rfl _ _ _ rfl rfl S0.out ?_; intro xb w1 h1; (try simp only [World.size_alloc, List.nil_append, List.cons_append, List.append_eq] at h1); have S1 := Lib.hid h1; clear h1 S0)
  refine (new_st _).mono ?_
  rintro e w2 ⟨k, rfl, hh⟩
  have h2 := S1.out.call hh; clear hh S1
  try simp only [List.nil_append, List.cons_append, List.append_eq, Int.toNat_natCast] at h2
  have S2 := Lib.hid h2; clear h2
  go_wp2_with (first
    | ((with_reducible refine at_slot (N := 17) rfl ?_); refine ev rfl (bslice_run _ 5 0 _ (row .u8 []) rfl (fun _ => by kernel_rfl)) ?_; have h3 := S2.out.alloc 5 (row .u8 []); (try simp only [World.size_alloc, List.nil_append, List.cons_append, List.append_eq] at h3); have S3 := Lib.hid h3; clear h3 S2)
    | ((with_reducible refine at_slot (N := 19) rfl ?_); refine append_bytes (N := [⟨xb, _, row .u8 l⟩]) (G := [bt w2.heap.size []]) rfl _ _ rfl _ [] rfl S3.out (GrowB.mkBlk (Nat.le_refl _) rfl (by decide) (B8.of_all (by decide)) rfl rfl) (some ⟨xb, 0, none⟩) 64 64 l rfl HL.out (Rd.of_blk (S3.out.blk mem1)) H8.out (by rw [HL.out]; decide) ?_; intro v1 w4 G1 h4 hg' hz; rw [List.nil_append] at hg'; obtain ⟨g, Dg, rfl, hle, _, _, ht, rfl⟩ := hg'.some (fun h => by have := (hz h).1; simp at this); rw [HL.out] at hg' hle ht ⊢; have HG1 := Lib.hid hg'; have HLE := Lib.hid hle; clear hg' hz hle ht; (try simp only [World.size_alloc, List.nil_append, List.cons_append, List.append_eq] at h4); have S4 := Lib.hid h4; clear h4 S3))
  refine (Planes_st HL.out (HG1.out.read S4.out (fun e he => by rw [List.mem_singleton] at he; subst he; simp)) H8.out).mono ?_
  rintro e w5 ⟨pb, rfl, hh⟩
  have h5 := S4.out.call hh; clear hh S4
  try simp only [List.nil_append, List.cons_append, List.append_eq, Int.toNat_natCast] at h5
  have S5 := Lib.hid h5; clear h5
  go_wp2_with fail
  refine (Block_st (ps := pls l) (pls_length l) (S5.out.rdV mem0) (pls_w64 l)).mono ?_
  rintro e w6 ⟨bb, rfl, hh⟩
  have h6 := S5.out.call hh; clear hh S5
  try simp only [List.nil_append, List.cons_append, List.append_eq, Int.toNat_natCast] at h6
  rw [EB.out] at h6
  have S6 := Lib.hid h6; clear h6
  go_wp2_with fail
  refine (same_st HL.out (by decide) (S6.out.rd mem0) (HG1.out.read S6.out (fun e he => by rw [List.mem_singleton] at he; subst he; simp))).mono ?_
  rintro e w7 ⟨rfl, hh⟩
  have h7 := S6.out.call hh; clear hh S6
  try simp only [List.nil_append, List.cons_append, List.append_eq, Int.toNat_natCast] at h7
  have S7 := Lib.hid h7; clear h7
  go_wp2_with fail
  refine (mul_st (by omega) (by omega) (S7.out.blk mem0) HL.out HL.out H8.out H8.out (by decide) HLE.out (by decide) (Srcs.new (HG1.out.read S7.out (fun e he => by rw [List.mem_singleton] at he; subst he; simp)) (S7.out.ne 0 2 rfl rfl (by decide)).symm)).mono ?_
  rintro e w8 ⟨rfl, hh⟩
  have h8 := S7.out.callN (N1 := []) hh; clear hh S7
  try simp only [List.nil_append, List.cons_append, List.append_eq, Int.toNat_natCast] at h8
  have S8 := Lib.hid h8; clear h8
  go_wp2_with fail
  refine (Planes_st (l := l.map (gm c)) ML.out (S8.out.rd mem0) M8.out).mono ?_
  rintro e w9 ⟨pq, rfl, hh⟩
  have h9 := S8.out.call hh; clear hh S8
  try simp only [List.nil_append, List.cons_append, List.append_eq, Int.toNat_natCast] at h9
  have S9 := Lib.hid h9; clear h9
  go_wp2_with fail
  refine (Columns_st (c : Int) _ (by omega) (by omega)).mono ?_
  rintro e w10 ⟨cb, D, rfl, hD8, hDt, hh⟩
  have h10 := S9.out.call hh; clear hh S9
  try simp only [List.nil_append, List.cons_append, List.append_eq, Int.toNat_natCast] at h10
  have HD8 := Lib.hid hD8; have HDT : Hid (D.take 8 = cols c) := Lib.hid hDt; clear hD8 hDt
  have S10 := Lib.hid h10; clear h10
  have DK : Hid (∀ k, k < 8 → D.getD k 0 = gm c (2 ^ k)) := Lib.hid (fun k hk => by
    rw [← cols_get hk, ← HDT.out, List.getD_eq_getElem?_getD, List.getD_eq_getElem?_getD, List.getElem?_take_of_lt hk])
  have D0 := DK.out 0 (by decide)
  rw [show gm c (2 ^ 0) = c from gm_one hc] at D0
  have mc := (S10.out.blk mem0).cellRow (i := 0) (by have := HD8.out; omega)
  rw [D0] at mc
  have q1 : (8 : Nat) ≤ D.length := HD8.out
  clear D0
  go_wp2_with fail
  clear mc
  go_loopw [13] (fun vi wr => ∃ b : Nat, b ≤ 8 ∧ vi = .int .i64 b ∧ St w wr [] [bt cb D, ⟨pq, 30, row .u64 (pls (l.map (gm c)))⟩, bt bb (l.map (gm c)), ⟨pb, 30, row .u64 (pls l)⟩, bt g Dg, ⟨xb, 42, row .u8 l⟩]) (fun vi _ => 8 - (intOf vi).toNat)
  case atStart => exact ⟨0, by omega, rfl, S10.out⟩
  case round =>
    obtain ⟨b, hb, rfl, hs⟩ := hrel
    have T2 := Lib.hid hs; clear hs
    by_cases hlt : b < 8
    · have j1 : (b : Int) < 8 := by omega
      have d1 : decide ((b : Int) < 8) = true := by simp; omega
      go_wp2_with fail
      go_loopw [14, 15] (fun vs vt wq => ∃ t : Nat, t ≤ 8 ∧ vt = .int .i64 t ∧ vs = .int .u64 ((sm c l b t : Nat) : Int) ∧ St w wq [] [bt cb D, ⟨pq, 30, row .u64 (pls (l.map (gm c)))⟩, bt bb (l.map (gm c)), ⟨pb, 30, row .u64 (pls l)⟩, bt g Dg, ⟨xb, 42, row .u8 l⟩]) (fun _ vt _ => 8 - (intOf vt).toNat)
      case atStart => exact ⟨0, by omega, rfl, rfl, T2.out⟩
      case round =>
        clear T2 d1
        obtain ⟨t, ht, rfl, rfl, hs⟩ := hrel
        have T3 := Lib.hid hs; clear hs
        by_cases ht8 : t < 8
        · have m1 := (T3.out.blk mem0).cellRow (i := t) (by omega)
          have m2 := (T3.out.blk mem3).cellRow (i := t) (by rw [pls_length]; exact ht8)
          rw [DK.out t ht8] at m1
          rw [pls_get ht8] at m2
          have hs1 := sm_lt c l b t
          have hp1 := pl_lt l t 64
          have HS : Hid (sm c l b (t + 1) = if gm c (2 ^ t) / 2 ^ b % 2 = 1 then sm c l b t ^^^ pl l t 64 else sm c l b t) := Lib.hid (by rw [sm])
          have hg : gm c (2 ^ t) < 256 := gm_lt _ hc
          obtain ⟨s', HS'⟩ : ∃ s', Hid (sm c l b (t + 1) = s') := ⟨_, Lib.hid rfl⟩
          rw [HS'.out] at HS
          generalize gm c (2 ^ t) = y at *
          generalize sm c l b t = s at *
          generalize pl l t 64 = p at *
          have hp2 : p < 18446744073709551616 := hp1
          clear hp1
          have hyb : y / 2 ^ b < 256 := Nat.lt_of_le_of_lt (Nat.div_le_self _ _) hg
          have e0 : (y : Int) / 2 ^ b = ((y / 2 ^ b : Nat) : Int) := by simp
          have e1 : Go.bits .and .u8 ((y / 2 ^ b : Nat) : Int) 1 = ((y / 2 ^ b % 2 : Nat) : Int) := by
            have := Bt.and8 (a := y / 2 ^ b) (b := 1) hyb (by decide)
            rw [Nat.and_one_is_mod] at this; exact this
          obtain ⟨q, HQ⟩ : ∃ q, Hid (y / 2 ^ b = q) := ⟨_, Lib.hid rfl⟩
          rw [HQ.out] at hyb e0 e1 HS
          have k1 : (t : Int) < 8 := by omega
          have k2 : (t : Int) < (D.length : Int) := by omega
          have k0 : (0 : Int) ≤ (t : Int) := by omega
          have j0 : (0 : Int) ≤ (b : Int) := by omega
          by_cases hq1 : q % 2 = 1
          · rw [hq1] at e1
            have e2 : Go.bits .xor .u64 (s : Int) (p : Int) = ((s ^^^ p : Nat) : Int) := Bt.xor64 hs1 hp2
            rw [if_pos hq1] at HS
            go_wp2_with fail
            refine ⟨⟨t + 1, by omega, by simp, ?_, T3.out⟩, ?_⟩
            · rw [HS'.out, HS.out]
            · simp [intOf]; omega
          · have hq0 : q % 2 = 0 := by omega
            rw [hq0] at e1
            rw [if_neg hq1] at HS
            go_wp2_with fail
            refine ⟨⟨t + 1, by omega, by simp, ?_, T3.out⟩, ?_⟩
            · rw [HS'.out, HS.out]
            · simp [intOf]; omega
        · obtain rfl : t = 8 := by omega
          have m3 := (T3.out.blk mem1).cellRow (i := b) (by rw [pls_length]; exact hlt)
          rw [SM.out b hlt] at m3
          have j0 : (0 : Int) ≤ (b : Int) := by omega
          generalize sm c l b 8 = s at *
          go_wp2_with fail
          refine ⟨⟨b + 1, by omega, by simp, T3.out⟩, ?_⟩
          simp [intOf]; omega
    · obtain rfl : b = 8 := by omega
      have S20 := T2
      go_wp2_with fail
      refine (word_calls 1 72623859790382856 _ (by decide) (by decide) (by decide) (by decide)).mono ?_
      rintro e w21 ⟨rfl, hh⟩
      have h21 := S20.out.call hh; clear hh S20
      try simp only [List.nil_append, List.cons_append, List.append_eq, Int.toNat_natCast] at h21
      have S21 := Lib.hid h21; clear h21
      rw [one8]
      go_wp2_with fail
      go_ret
      exact ⟨rfl, S21.out.below⟩

end Go.Proofs.Ytcjcolmhhbnmgaa.Sl
