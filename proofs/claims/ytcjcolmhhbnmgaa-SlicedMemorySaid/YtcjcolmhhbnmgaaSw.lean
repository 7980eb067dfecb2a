/- Layer 7: the document's answers (culletref07). -/
import Derived.Test.YtcjcolmhhbnmgaaSv
import Derived.Test.YtcjcolmhhbnmgaaK3
import Derived.Test.YtcjcolmhhbnmgaaR2
namespace Go.Proofs.Ytcjcolmhhbnmgaa.Sl
set_option linter.unusedSimpArgs false
set_option linter.unusedVariables false
open Go Go.RowKit Go.Proofs.Ytcjcolmhhbnmgaa Go.Proofs.Ytcjcolmhhbnmgaa.Mm Go.Proofs.Ytcjcolmhhbnmgaa.Gf Go.Proofs.Ytcjcolmhhbnmgaa.Wr Go.Proofs.Ytcjcolmhhbnmgaa.St Go.Proofs.Ytcjcolmhhbnmgaa.Wd

theorem set_same {l : List Nat} {k v : Nat} (h : l.getD k 0 = v) : l.set k v = l := by
  apply List.ext_getElem?
  intro i
  rw [List.getElem?_set]
  by_cases e : k = i
  · subst e
    rw [if_pos rfl]
    by_cases hk : k < l.length
    · rw [if_pos hk, ← h]; simp [hk]
    · rw [if_neg hk, List.getElem?_eq_none (by omega)]
  · rw [if_neg e]

theorem rplanes_ne (A : Option Addr) (n cp : Nat) (w : World) (h : n ≠ 64) : Calls Try.prog 25 #[.slice A n cp] w fun e w' => e = .returned (.tuple #[.slice none 0 0, .int .i64 6]) ∧ w = w' := by
  have h1 : (((n : Nat) : Int) != 64) = true := by rw [bne_iff_ne]; omega
  clear h
  go_enter Try.func25, Try.ntmps25
  go_wp2
  go_ret2
  exact ⟨rfl, rfl⟩

theorem rblock_ne (A : Option Addr) (n cp : Nat) (w : World) (h : n ≠ 8) : Calls Try.prog 48 #[.slice A n cp] w fun e w' => e = .returned (.tuple #[.slice none 0 0, .int .i64 6]) ∧ w = w' := by
  have h1 : (((n : Nat) : Int) != 8) = true := by rw [bne_iff_ne]; omega
  clear h
  go_enter Try.func48, Try.ntmps48
  go_wp2
  go_ret2
  exact ⟨rfl, rfl⟩

set_option maxRecDepth 100000 in
set_option maxHeartbeats 4000000 in
theorem rPlanes_st {A : Option Addr} {cp : Nat} {l : List Nat} {w : World} (hl : l.length = 64) (hr : Rd w A l) (h8 : B8 l) :
    Calls Try.prog 25 #[.slice A (64 : Nat) cp] w fun e w' => ∃ b, e = .returned (.tuple #[.slice (some ⟨b, 0, none⟩) 8 8, .int .i64 0]) ∧ St w w' [] [⟨b, 30, row .u64 (pls l)⟩] := by
  have HL := Lib.hid hl; have HR := Lib.hid hr; have H8 := Lib.hid h8
  clear hl hr h8
  have S0 := Lib.hid (St.start w)
  go_enter Try.func25, Try.ntmps25
  go_wp2_with ((with_reducible refine at_slot (N := 10) rfl ?_); refine make_law rfl 43 30 _ .u64 8 8 rfl rfl Try.underlying43 info_u64 (by omega) (by omega) S0.out ?_; intro b w1 h1; (try simp only [World.size_alloc, List.nil_append, List.cons_append, List.append_eq] at h1); have S1 := Lib.hid h1; clear h1 S0)
  have H1 : Hid (St w w1 [] [⟨b, 30, row .u64 (plk l 0 0)⟩]) := Lib.hid (by have := S1.out; rw [plk_zero]; exact this)
  clear S1
  go_loopw [5] (fun vi wr => ∃ j : Nat, j ≤ 64 ∧ vi = .int .i64 j ∧ St w wr [] [⟨b, 30, row .u64 (plk l j 0)⟩]) (fun vi _ => 64 - (intOf vi).toNat)
  case atStart => exact ⟨0, by omega, rfl, H1.out⟩
  case round =>
    clear H1
    obtain ⟨j, hj, rfl, hs⟩ := hrel
    have S2 := Lib.hid hs; clear hs
    by_cases hlt : j < 64
    · have hx := H8.out.get (i := j) (by rw [HL.out]; exact hlt)
      have j1 : (j : Int) < 64 := by omega
      have d1 : decide ((j : Int) < 64) = true := by simp; omega
      obtain ⟨x, HX⟩ : ∃ x, Hid (l.getD j 0 = x) := ⟨_, Lib.hid rfl⟩
      rw [HX.out] at hx
      go_wp2_with fail
      go_loopw [6] (fun vb wq => ∃ k : Nat, k ≤ 8 ∧ vb = .int .i64 k ∧ St w wq [] [⟨b, 30, row .u64 (plk l j k)⟩]) (fun vb _ => 8 - (intOf vb).toNat)
      case atStart => exact ⟨0, by omega, rfl, S2.out⟩
      case round =>
        clear S2 d1
        obtain ⟨k, hk, rfl, hs⟩ := hrel
        have S3 := Lib.hid hs; clear hs
        by_cases hk8 : k < 8
        · obtain ⟨bs, os, eA, hsrc⟩ := (S3.out.ext HR.out) (by rw [HL.out]; omega)
          subst eA
          have m1 := hsrc j (by rw [HL.out]; exact hlt)
          rw [HX.out] at m1
          clear hsrc
          have m2 := (S3.out.blk mem0).cellRow (i := k) (by rw [plk_length]; exact hk8)
          have f2 := (S3.out.blk mem0).free (i := k)
          rw [plk_get hk8, if_neg (Nat.lt_irrefl k)] at m2
          have hp := pl_lt l k j
          have HP : Hid (pl l k j + x / 2 ^ k % 2 * 2 ^ j = pl l k (j + 1)) := Lib.hid (by rw [pl, HX.out])
          obtain ⟨p, HPP⟩ : ∃ p, Hid (pl l k j = p) := ⟨_, Lib.hid rfl⟩
          rw [HPP.out] at m2 hp HP
          have hxk : x / 2 ^ k < 256 := Nat.lt_of_le_of_lt (Nat.div_le_self _ _) hx
          have e0 : (x : Int) / 2 ^ k = ((x / 2 ^ k : Nat) : Int) := by simp
          have e1 : Go.bits .and .u8 ((x / 2 ^ k : Nat) : Int) 1 = ((x / 2 ^ k % 2 : Nat) : Int) := by
            have := Bt.and8 (a := x / 2 ^ k) (b := 1) hxk (by decide)
            rw [Nat.and_one_is_mod] at this; exact this
          obtain ⟨q, HQ⟩ : ∃ q, Hid (x / 2 ^ k = q) := ⟨_, Lib.hid rfl⟩
          rw [HQ.out] at hxk e0 e1 HP
          have j2 : 2 ^ j < 18446744073709551616 := by have := bit_lt (β := 1) (j := j) (by decide) hlt; omega
          have e2 : IntKind.u64.wrap (2 ^ j) = ((2 ^ j : Nat) : Int) := by
            rw [show (2 : Int) ^ j = ((2 ^ j : Nat) : Int) from by simp]; exact Bt.wrap_u64 _ (by omega) (by omega)
          obtain ⟨z, HZ⟩ : ∃ z, Hid (2 ^ j = z) := ⟨_, Lib.hid rfl⟩
          rw [HZ.out] at j2 e2
          have e3 : Go.bits .or .u64 (p : Int) (z : Int) = ((p + z : Nat) : Int) := by
            rw [Bt.or64 (low_lt hp (by omega)) j2, ← HZ.out]
            have := or_bit (p := p) (j := j) (β := 1) hp
            rw [Nat.one_mul] at this; rw [this]
          have k1 : (k : Int) < 8 := by omega
          have k0 : (0 : Int) ≤ (k : Int) := by omega
          have j0 : (0 : Int) ≤ (j : Int) := by omega
          rcases (show q % 2 = 0 ∨ q % 2 = 1 by omega) with hq | hq
          · have e4 : Go.bits .and .u8 (q : Int) 1 = 0 := by rw [e1, hq]; rfl
            rw [hq, Nat.zero_mul, Nat.add_zero] at HP
            clear e1 e2 e3 hq
            go_wp2_with fail
            refine ⟨⟨k + 1, by omega, by simp, ?_⟩, ?_⟩
            · rw [← plk_step hk8, ← HP.out, set_same (by rw [plk_get hk8, if_neg (Nat.lt_irrefl k)]; exact HPP.out)]
              exact S3.out
            · simp [intOf]; omega
          · have e4 : Go.bits .and .u8 (q : Int) 1 = 1 := by rw [e1, hq]; rfl
            rw [hq, Nat.one_mul, HZ.out] at HP
            clear e1 hq
            go_wp2_with fail
            have S4 := Lib.hid (S3.out.setRow (N1 := []) k (pl l k (j + 1)))
            rw [plk_step hk8] at S4
            refine ⟨⟨k + 1, by omega, by simp, ?_⟩, ?_⟩
            · rw [show (p : Int) + (z : Int) = ((pl l k (j + 1) : Nat) : Int) from by rw [← HP.out]; simp]
              exact S4.out
            · simp [intOf]; omega
        · obtain rfl : k = 8 := by omega
          rw [plk_next] at S3
          go_wp2_with fail
          refine ⟨⟨j + 1, by omega, by simp, S3.out⟩, ?_⟩
          simp [intOf]; omega
    · obtain rfl : j = 64 := by omega
      rw [plk_done] at S2
      go_wp2_with fail
      go_ret2
      exact ⟨b, rfl, S2.out⟩

set_option maxRecDepth 100000 in
set_option maxHeartbeats 4000000 in
theorem rBlock_st {A : Option Addr} {cp : Nat} {ps : List Nat} {w : World} (hl : ps.length = 8) (hr : RdV e64 w A ps) (h64 : W64 ps) :
    Calls Try.prog 48 #[.slice A (8 : Nat) cp] w fun e w' => ∃ b, e = .returned (.tuple #[.slice (some ⟨b, 0, none⟩) 64 64, .int .i64 0]) ∧ St w w' [] [bt b (blk64 ps)] := by
  have HL := Lib.hid hl; have HR := Lib.hid hr; have H64 := Lib.hid h64
  clear hl hr h64
  have S0 := Lib.hid (St.start w)
  go_enter Try.func48, Try.ntmps48
  go_wp2_with ((with_reducible refine at_slot (N := 10) rfl ?_); refine make_law rfl 22 5 _ .u8 (64) 1 rfl rfl Try.underlying22 info_u8 (by omega) (by omega) S0.out ?_; intro b w1 h1; (try simp only [World.size_alloc, List.nil_append, List.cons_append, List.append_eq] at h1); have S1 := Lib.hid h1; clear h1 S0)
  have H1 : Hid (St w w1 [] [bt b (bbk ps 0 0)]) := Lib.hid (by have := S1.out; rw [bbk_zero]; exact this)
  clear S1
  go_loopw [5] (fun vi wr => ∃ j : Nat, j ≤ 64 ∧ vi = .int .i64 j ∧ St w wr [] [bt b (bbk ps j 0)]) (fun vi _ => 64 - (intOf vi).toNat)
  case atStart => exact ⟨0, by omega, rfl, H1.out⟩
  case round =>
    clear H1
    obtain ⟨j, hj, rfl, hs⟩ := hrel
    have S2 := Lib.hid hs; clear hs
    by_cases hlt : j < 64
    · have j1 : (j : Int) < 64 := by omega
      have d1 : decide ((j : Int) < 64) = true := by simp; omega
      go_wp2_with fail
      go_loopw [6] (fun vb wq => ∃ k : Nat, k ≤ 8 ∧ vb = .int .i64 k ∧ St w wq [] [bt b (bbk ps j k)]) (fun vb _ => 8 - (intOf vb).toNat)
      case atStart => exact ⟨0, by omega, rfl, S2.out⟩
      case round =>
        clear S2 d1
        obtain ⟨k, hk, rfl, hs⟩ := hrel
        have S3 := Lib.hid hs; clear hs
        by_cases hk8 : k < 8
        · obtain ⟨bs, os, eA, hsrc⟩ := (S3.out.extV HR.out) (by rw [HL.out]; omega)
          subst eA
          obtain ⟨x, hx⟩ : ∃ x, ps[k]? = some x := ⟨ps[k]'(by rw [HL.out]; exact hk8), by simp⟩
          have m1 : wr.cell? ⟨bs, os + k, none⟩ = some (.int .u64 (x : Int)) := hsrc k x hx
          have hx64 := H64.out x (List.mem_of_getElem? hx)
          clear hsrc
          have m2 := (S3.out.blk mem0).cellRow (i := j) (by rw [bbk_length]; exact hlt)
          have f2 := (S3.out.blk mem0).free (i := j)
          rw [bbk_get hlt] at m2
          have hp := bb_lt ps j k
          have HP : Hid (bb ps j k + x / 2 ^ j % 2 * 2 ^ k = bb ps j (k + 1)) := Lib.hid (by rw [bb, show ps.getD k 0 = x by simp [hx]])
          clear hx
          obtain ⟨p, HPP⟩ : ∃ p, Hid (bb ps j k = p) := ⟨_, Lib.hid rfl⟩
          rw [HPP.out] at m2 hp HP
          have hxk : x / 2 ^ j < 18446744073709551616 := Nat.lt_of_le_of_lt (Nat.div_le_self _ _) hx64
          have e0 : (x : Int) / 2 ^ j = ((x / 2 ^ j : Nat) : Int) := by simp
          have e1 : Go.bits .and .u64 ((x / 2 ^ j : Nat) : Int) 1 = ((x / 2 ^ j % 2 : Nat) : Int) := by
            have := Bt.and64 (a := x / 2 ^ j) (b := 1) hxk (by decide)
            rw [Nat.and_one_is_mod] at this; exact this
          obtain ⟨q, HQ⟩ : ∃ q, Hid (x / 2 ^ j = q) := ⟨_, Lib.hid rfl⟩
          rw [HQ.out] at hxk e0 e1 HP
          have j2 : 2 ^ k < 256 := Nat.lt_of_le_of_lt (Nat.pow_le_pow_right (n := 2) (i := k) (j := 7) (by decide) (by omega)) (by decide)
          have p256 : p < 256 := Nat.lt_of_lt_of_le hp (Nat.pow_le_pow_right (n := 2) (i := k) (j := 8) (by decide) (by omega))
          have e2 : IntKind.u8.wrap (2 ^ k) = ((2 ^ k : Nat) : Int) := by
            rw [show (2 : Int) ^ k = ((2 ^ k : Nat) : Int) from by simp]; exact Bt.wu8 j2
          have e2' : (2 : Int) ^ k % 256 = ((2 ^ k : Nat) : Int) := by
            rw [show (2 : Int) ^ k = ((2 ^ k : Nat) : Int) from by simp]; omega
          obtain ⟨z, HZ⟩ : ∃ z, Hid (2 ^ k = z) := ⟨_, Lib.hid rfl⟩
          rw [HZ.out] at j2 e2 e2'
          have e3 : Go.bits .or .u8 (p : Int) (z : Int) = ((p + z : Nat) : Int) := by
            rw [Bt.or8 p256 j2, ← HZ.out]
            have := or_bit (p := p) (j := k) (β := 1) hp
            rw [Nat.one_mul] at this; rw [this]
          have k1 : (k : Int) < 8 := by omega
          have k0 : (0 : Int) ≤ (k : Int) := by omega
          have j0 : (0 : Int) ≤ (j : Int) := by omega
          rcases (show q % 2 = 0 ∨ q % 2 = 1 by omega) with hq | hq
          · have e4 : Go.bits .and .u64 (q : Int) 1 = 0 := by rw [e1, hq]; rfl
            rw [hq, Nat.zero_mul, Nat.add_zero] at HP
            clear e1 e2 e2' e3 hq
            go_wp2_with fail
            refine ⟨⟨k + 1, by omega, by simp, ?_⟩, ?_⟩
            · rw [← bbk_step hlt, ← HP.out, set_same (by rw [bbk_get hlt]; exact HPP.out)]
              exact S3.out
            · simp [intOf]; omega
          · have e4 : Go.bits .and .u64 (q : Int) 1 = 1 := by rw [e1, hq]; rfl
            rw [hq, Nat.one_mul, HZ.out] at HP
            clear e1 hq
            go_wp2_with fail
            have S4 := Lib.hid (S3.out.setRow (N1 := []) j (bb ps j (k + 1)))
            rw [bbk_step hlt] at S4
            refine ⟨⟨k + 1, by omega, by simp, ?_⟩, ?_⟩
            · rw [show (p : Int) + (z : Int) = ((bb ps j (k + 1) : Nat) : Int) from by rw [← HP.out]; simp]
              exact S4.out
            · simp [intOf]; omega
        · obtain rfl : k = 8 := by omega
          rw [bbk_next] at S3
          go_wp2_with fail
          refine ⟨⟨j + 1, by omega, by simp, S3.out⟩, ?_⟩
          simp [intOf]; omega
    · obtain rfl : j = 64 := by omega
      rw [bbk_done] at S2
      go_wp2_with fail
      go_ret2
      exact ⟨b, rfl, S2.out⟩

end Go.Proofs.Ytcjcolmhhbnmgaa.Sl
