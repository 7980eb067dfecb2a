/- Layer 7 (sliced): Planes and Block, and the document's. -/
import Derived.Test.YtcjcolmhhbnmgaaH7
import Derived.Test.YtcjcolmhhbnmgaaGv
import Derived.IntWalk
namespace Go.Proofs.Ytcjcolmhhbnmgaa.Sl
set_option linter.unusedSimpArgs false
set_option linter.unusedVariables false
open Go Go.RowKit Go.Proofs.Ytcjcolmhhbnmgaa Go.Proofs.Ytcjcolmhhbnmgaa.Mm Go.Proofs.Ytcjcolmhhbnmgaa.Gf Go.Proofs.Ytcjcolmhhbnmgaa.Wr Go.Proofs.Ytcjcolmhhbnmgaa.St Go.Proofs.Ytcjcolmhhbnmgaa.Wd

theorem info_u64 : (Try.prog.info? 30).map (fun i => (i.zero, i.size, i.bytes)) = some (some (.int .u64 0), 1, 8) := by kernel_rfl

/-- The bits at place b of the first j bytes of l, as a number. -/
def pl (l : List Nat) (b : Nat) : Nat → Nat
  | 0 => 0
  | j + 1 => pl l b j + (l.getD j 0 / 2 ^ b % 2) * 2 ^ j
theorem pl_lt (l : List Nat) (b : Nat) : ∀ j, pl l b j < 2 ^ j
  | 0 => by simp [pl]
  | j + 1 => by
    have ih := pl_lt l b j
    have h : l.getD j 0 / 2 ^ b % 2 ≤ 1 := by omega
    have h2 := Nat.mul_le_mul_right (2 ^ j) h
    rw [pl, Nat.pow_succ]; omega
/-- The eight planes of a block. -/
def pls (l : List Nat) : List Nat := (List.range 8).map fun b => pl l b 64
/-- .. on the way: j bytes are in, and byte j in the first k planes. -/
def plk (l : List Nat) (j k : Nat) : List Nat := (List.range 8).map fun b => if b < k then pl l b (j + 1) else pl l b j
theorem plk_length (l : List Nat) (j k : Nat) : (plk l j k).length = 8 := by simp [plk]
theorem plk_get {l : List Nat} {j k b : Nat} (hb : b < 8) : (plk l j k).getD b 0 = if b < k then pl l b (j + 1) else pl l b j := by simp [plk, hb]
theorem plk_zero (l : List Nat) : plk l 0 0 = List.replicate 8 0 := by
  apply List.ext_getElem?
  intro i
  by_cases hi : i < 8
  · rw [List.getElem?_replicate, if_pos hi]; simp [plk, hi, pl]
  · simp [plk, hi]
theorem plk_next (l : List Nat) (j : Nat) : plk l j 8 = plk l (j + 1) 0 := by
  unfold plk
  apply List.map_congr_left
  intro b hb
  rw [if_pos (by simpa using hb), if_neg (by omega)]
theorem plk_done (l : List Nat) : plk l 64 0 = pls l := by
  unfold plk pls
  apply List.map_congr_left
  intro b _
  rw [if_neg (by omega)]
theorem plk_step {l : List Nat} {j k : Nat} (h : k < 8) : (plk l j k).set k (pl l k (j + 1)) = plk l j (k + 1) := by
  apply List.ext_getElem?
  intro i
  rw [List.getElem?_set]
  by_cases hi : i < 8
  · by_cases e : k = i
    · subst e
      rw [if_pos rfl, if_pos (by rw [plk_length]; exact h)]
      simp [plk, h]
    · rw [if_neg e]
      simp only [plk, List.getElem?_map, List.getElem?_range hi, Option.map_some]
      by_cases h2 : i < k
      · rw [if_pos h2, if_pos (by omega)]
      · rw [if_neg h2, if_neg (by omega)]
  · rw [if_neg (by omega), List.getElem?_eq_none (by rw [plk_length]; omega), List.getElem?_eq_none (by rw [plk_length]; omega)]
theorem bit01 (x b : Nat) : x / 2 ^ b % 2 = 0 ∨ x / 2 ^ b % 2 = 1 := by omega
/-- A bit laid above a number. -/
theorem or_bit {p j β : Nat} (h : p < 2 ^ j) : p ||| β * 2 ^ j = p + β * 2 ^ j := by
  rw [Nat.or_comm, Nat.mul_comm, ← Nat.two_pow_add_eq_or_of_lt h]; omega
theorem bit_lt {β j : Nat} (hb : β ≤ 1) (hj : j < 64) : β * 2 ^ j < 18446744073709551616 := by
  have h1 : 2 ^ j ≤ 2 ^ 63 := Nat.pow_le_pow_right (by decide) (by omega)
  have h2 := Nat.mul_le_mul hb h1
  omega
theorem low_lt {p j : Nat} (h : p < 2 ^ j) (hj : j ≤ 64) : p < 18446744073709551616 :=
  Nat.lt_of_lt_of_le h (Nat.pow_le_pow_right (by decide) hj)

theorem planes_ne (A : Option Addr) (n cp : Nat) (w : World) (h : n ≠ 64) : Calls Try.prog 22 #[.slice A n cp] w fun e w' => e = .returned (.tuple #[.slice none 0 0, .int .i64 6]) ∧ w = w' := by
  have h1 : (((n : Nat) : Int) != 64) = true := by rw [bne_iff_ne]; omega
  clear h
  go_enter Try.func22, Try.ntmps22
  go_wp2
  go_ret2
  exact ⟨rfl, rfl⟩

set_option maxRecDepth 100000 in
set_option maxHeartbeats 4000000 in
theorem Planes_st {A : Option Addr} {cp : Nat} {l : List Nat} {w : World} (hl : l.length = 64) (hr : Rd w A l) (h8 : B8 l) :
    Calls Try.prog 22 #[.slice A (64 : Nat) cp] w fun e w' => ∃ b, e = .returned (.tuple #[.slice (some ⟨b, 0, none⟩) 8 8, .int .i64 0]) ∧ St w w' [] [⟨b, 30, row .u64 (pls l)⟩] := by
  have HL := Lib.hid hl; have HR := Lib.hid hr; have H8 := Lib.hid h8
  clear hl hr h8
  have S0 := Lib.hid (St.start w)
  go_enter Try.func22, Try.ntmps22
  go_wp2_with ((with_reducible refine at_slot (N := 11) rfl ?_); refine make_law rfl 43 30 _ .u64 8 8 rfl rfl Try.underlying43 info_u64 (by omega) (by omega) S0.out ?_; intro b w1 h1; (try simp only [World.size_alloc, List.nil_append, List.cons_append, List.append_eq] at h1); have S1 := Lib.hid h1; clear h1 S0)
  have H1 : Hid (St w w1 [] [⟨b, 30, row .u64 (plk l 0 0)⟩]) := Lib.hid (by have := S1.out; rw [plk_zero]; exact this)
  clear S1
  go_loopw [14] (fun vi wr => ∃ j : Nat, j ≤ 64 ∧ vi = .int .i64 j ∧ St w wr [] [⟨b, 30, row .u64 (plk l j 0)⟩]) (fun vi _ => 64 - (intOf vi).toNat)
  case atStart => exact ⟨0, by omega, rfl, H1.out⟩
  case round =>
    clear H1
    obtain ⟨j, hj, rfl, hs⟩ := hrel
    have S2 := Lib.hid hs; clear hs
    by_cases hlt : j < 64
    · obtain ⟨bs, os, eA, hsrc⟩ := (S2.out.ext HR.out) (by rw [HL.out]; omega)
      subst eA
      have m1 := hsrc j (by rw [HL.out]; exact hlt)
      have hx := H8.out.get (i := j) (by rw [HL.out]; exact hlt)
      have j1 : (j : Int) < 64 := by omega
      have d1 : decide ((j : Int) < 64) = true := by simp; omega
      clear hsrc
      obtain ⟨x, HX⟩ : ∃ x, Hid (l.getD j 0 = x) := ⟨_, Lib.hid rfl⟩
      rw [HX.out] at m1 hx
      go_wp2_with fail
      go_loopw [21] (fun vb wq => ∃ k : Nat, k ≤ 8 ∧ vb = .int .i64 k ∧ St w wq [] [⟨b, 30, row .u64 (plk l j k)⟩]) (fun vb _ => 8 - (intOf vb).toNat)
      case atStart => exact ⟨0, by omega, rfl, S2.out⟩
      case round =>
        clear S2 d1
        obtain ⟨k, hk, rfl, hs⟩ := hrel
        have S3 := Lib.hid hs; clear hs
        by_cases hk8 : k < 8
        · have m2 := (S3.out.blk mem0).cellRow (i := k) (by rw [plk_length]; exact hk8)
          have f2 := (S3.out.blk mem0).free (i := k)
          rw [plk_get hk8, if_neg (Nat.lt_irrefl k)] at m2
          have hp := pl_lt l k j
          have HP : Hid (pl l k j + x / 2 ^ k % 2 * 2 ^ j = pl l k (j + 1)) := Lib.hid (by rw [pl, HX.out])
          generalize pl l k j = p at *
          have hxk : x / 2 ^ k < 256 := Nat.lt_of_le_of_lt (Nat.div_le_self _ _) hx
          have hb2 : x / 2 ^ k % 2 ≤ 1 := by omega
          have e0 : (x : Int) / 2 ^ k = ((x / 2 ^ k : Nat) : Int) := by simp
          have e1 : Go.bits .and .u8 ((x / 2 ^ k : Nat) : Int) 1 = ((x / 2 ^ k % 2 : Nat) : Int) := by
            have := Bt.and8 (a := x / 2 ^ k) (b := 1) hxk (by decide)
            rw [Nat.and_one_is_mod] at this; exact this
          obtain ⟨q, HQ⟩ : ∃ q, Hid (x / 2 ^ k = q) := ⟨_, Lib.hid rfl⟩
          rw [HQ.out] at hxk hb2 e0 e1 HP
          obtain ⟨β, HB⟩ : ∃ β, Hid (q % 2 = β) := ⟨_, Lib.hid rfl⟩
          rw [HB.out] at hb2 e1 HP
          have b64 := bit_lt hb2 hlt
          have e2 : IntKind.u64.wrap ((β : Int) * 2 ^ j) = ((β * 2 ^ j : Nat) : Int) := by
            rw [show (β : Int) * 2 ^ j = ((β * 2 ^ j : Nat) : Int) from by simp]; exact Bt.wrap_u64 _ (by omega) (by omega)
          obtain ⟨z, HZ⟩ : ∃ z, Hid (β * 2 ^ j = z) := ⟨_, Lib.hid rfl⟩
          rw [HZ.out] at b64 e2 HP
          have e3 : Go.bits .or .u64 (p : Int) (z : Int) = ((p + z : Nat) : Int) := by
            rw [Bt.or64 (low_lt hp (by omega)) b64, ← HZ.out, or_bit hp]
          have k1 : (k : Int) < 8 := by omega
          have k0 : (0 : Int) ≤ (k : Int) := by omega
          have j0 : (0 : Int) ≤ (j : Int) := by omega
          go_wp2_with fail
          refine Qt.quiet_tail 13 (by kernel_rfl) (by kernel_rfl) ?_
          simp only [List.take_succ_cons, List.take_zero, List.drop_succ_cons, List.drop_zero]
          repeat (quiet_step (fail))
          refine wpQuiet_nil ?_
          rintro _ ⟨nq, rfl⟩
          go_wp2_with fail
          have S4 := Lib.hid ((S3.out.drewN (n := nq)).setRow (N1 := []) k (pl l k (j + 1)))
          rw [plk_step hk8] at S4
          refine ⟨⟨k + 1, by omega, by simp, ?_⟩, ?_⟩
          · rw [show (p : Int) + (z : Int) = ((pl l k (j + 1) : Nat) : Int) from by rw [← HP.out]; simp]
            exact S4.out
          · simp [intOf]; omega
        · obtain rfl : k = 8 := by omega
          rw [plk_next] at S3
          go_wp2_with fail
          refine ⟨⟨j + 1, by omega, by simp, S3.out⟩, ?_⟩
          simp [intOf]; omega
    · obtain rfl : j = 64 := by omega
      rw [plk_done] at S2
      go_wp2_with fail
      go_ret2
      exact ⟨b, rfl, S2.out⟩

/-- Byte j of the block whose planes are ps: its first b bits. -/
def bb (ps : List Nat) (j : Nat) : Nat → Nat
  | 0 => 0
  | b + 1 => bb ps j b + (ps.getD b 0 / 2 ^ j % 2) * 2 ^ b
theorem bb_lt (ps : List Nat) (j : Nat) : ∀ b, bb ps j b < 2 ^ b
  | 0 => by simp [bb]
  | b + 1 => by
    have ih := bb_lt ps j b
    have h : ps.getD b 0 / 2 ^ j % 2 ≤ 1 := by omega
    have h2 := Nat.mul_le_mul_right (2 ^ b) h
    rw [bb, Nat.pow_succ]; omega
def blk64 (ps : List Nat) : List Nat := (List.range 64).map fun j => bb ps j 8
theorem blk64_length (ps : List Nat) : (blk64 ps).length = 64 := by simp [blk64]
theorem blk64_b8 (ps : List Nat) : B8 (blk64 ps) := by
  intro x hx
  obtain ⟨j, _, rfl⟩ := List.mem_map.1 hx
  exact bb_lt ps j 8
/-- .. on the way: j bytes are done, and byte j has its first b bits. -/
def bbk (ps : List Nat) (j b : Nat) : List Nat := (List.range 64).map fun i => if i < j then bb ps i 8 else if i = j then bb ps j b else 0
theorem bbk_length (ps : List Nat) (j b : Nat) : (bbk ps j b).length = 64 := by simp [bbk]
theorem bbk_get {ps : List Nat} {j b : Nat} (h : j < 64) : (bbk ps j b).getD j 0 = bb ps j b := by simp [bbk, h]
theorem bbk_zero (ps : List Nat) : bbk ps 0 0 = List.replicate 64 0 := by
  apply List.ext_getElem?
  intro i
  by_cases hi : i < 64
  · rw [List.getElem?_replicate, if_pos hi]; simp [bbk, hi, bb]
  · simp [bbk, hi]
theorem bbk_next (ps : List Nat) (j : Nat) : bbk ps j 8 = bbk ps (j + 1) 0 := by
  unfold bbk
  apply List.map_congr_left
  intro i _
  by_cases h1 : i < j
  · rw [if_pos h1, if_pos (by omega)]
  · rw [if_neg h1]
    by_cases h2 : i = j
    · subst h2; rw [if_pos rfl, if_pos (by omega)]
    · rw [if_neg h2, if_neg (by omega)]
      by_cases h3 : i = j + 1
      · rw [if_pos h3]; rfl
      · rw [if_neg h3]
theorem bbk_done (ps : List Nat) : bbk ps 64 0 = blk64 ps := by
  unfold bbk blk64
  apply List.map_congr_left
  intro i hi
  rw [if_pos (by simpa using hi)]
theorem bbk_step {ps : List Nat} {j b : Nat} (h : j < 64) : (bbk ps j b).set j (bb ps j (b + 1)) = bbk ps j (b + 1) := by
  apply List.ext_getElem?
  intro i
  rw [List.getElem?_set]
  by_cases hi : i < 64
  · by_cases e : j = i
    · subst e
      rw [if_pos rfl, if_pos (by rw [bbk_length]; exact h)]
      simp [bbk, h]
    · rw [if_neg e]
      simp only [bbk, List.getElem?_map, List.getElem?_range hi, Option.map_some]
      by_cases h2 : i < j
      · rw [if_pos h2, if_pos h2]
      · rw [if_neg h2, if_neg h2, if_neg (fun h => e h.symm), if_neg (fun h => e h.symm)]
  · rw [if_neg (by omega), List.getElem?_eq_none (by rw [bbk_length]; omega), List.getElem?_eq_none (by rw [bbk_length]; omega)]
/-- All are words of 64 bits. -/
def W64 (l : List Nat) : Prop := ∀ x ∈ l, x < 18446744073709551616
theorem W64.get {l : List Nat} (h : W64 l) (i : Nat) : l.getD i 0 < 18446744073709551616 := by
  by_cases hi : i < l.length
  · have e : l.getD i 0 = l[i] := by simp [hi]
    rw [e]; exact h _ (List.getElem_mem hi)
  · rw [List.getD_eq_getElem?_getD, List.getElem?_eq_none (by omega)]; decide
theorem pls_w64 (l : List Nat) : W64 (pls l) := by
  intro x hx
  obtain ⟨b, _, rfl⟩ := List.mem_map.1 hx
  exact pl_lt l b 64
theorem pls_length (l : List Nat) : (pls l).length = 8 := by simp [pls]

theorem block_ne (A : Option Addr) (n cp : Nat) (w : World) (h : n ≠ 8) : Calls Try.prog 23 #[.slice A n cp] w fun e w' => e = .returned (.tuple #[.slice none 0 0, .int .i64 6]) ∧ w = w' := by
  have h1 : (((n : Nat) : Int) != 8) = true := by rw [bne_iff_ne]; omega
  clear h
  go_enter Try.func23, Try.ntmps23
  go_wp2
  go_ret2
  exact ⟨rfl, rfl⟩

set_option maxRecDepth 100000 in
set_option maxHeartbeats 4000000 in
theorem Block_st {A : Option Addr} {cp : Nat} {ps : List Nat} {w : World} (hl : ps.length = 8) (hr : RdV e64 w A ps) (h64 : W64 ps) :
    Calls Try.prog 23 #[.slice A (8 : Nat) cp] w fun e w' => ∃ b, e = .returned (.tuple #[.slice (some ⟨b, 0, none⟩) 64 64, .int .i64 0]) ∧ St w w' [] [bt b (blk64 ps)] := by
  have HL := Lib.hid hl; have HR := Lib.hid hr; have H64 := Lib.hid h64
  clear hl hr h64
  have S0 := Lib.hid (St.start w)
  go_enter Try.func23, Try.ntmps23
  go_wp2_with ((with_reducible refine at_slot (N := 11) rfl ?_); refine make_law rfl 22 5 _ .u8 (64) 1 rfl rfl Try.underlying22 info_u8 (by omega) (by omega) S0.out ?_; intro b w1 h1; (try simp only [World.size_alloc, List.nil_append, List.cons_append, List.append_eq] at h1); have S1 := Lib.hid h1; clear h1 S0)
  have H1 : Hid (St w w1 [] [bt b (bbk ps 0 0)]) := Lib.hid (by have := S1.out; rw [bbk_zero]; exact this)
  clear S1
  go_loopw [14] (fun vi wr => ∃ j : Nat, j ≤ 64 ∧ vi = .int .i64 j ∧ St w wr [] [bt b (bbk ps j 0)]) (fun vi _ => 64 - (intOf vi).toNat)
  case atStart => exact ⟨0, by omega, rfl, H1.out⟩
  case round =>
    clear H1
    obtain ⟨j, hj, rfl, hs⟩ := hrel
    have S2 := Lib.hid hs; clear hs
    by_cases hlt : j < 64
    · have j1 : (j : Int) < 64 := by omega
      have d1 : decide ((j : Int) < 64) = true := by simp; omega
      go_wp2_with fail
      go_loopw [19] (fun vb wq => ∃ k : Nat, k ≤ 8 ∧ vb = .int .i64 k ∧ St w wq [] [bt b (bbk ps j k)]) (fun vb _ => 8 - (intOf vb).toNat)
      case atStart => exact ⟨0, by omega, rfl, S2.out⟩
      case round =>
        clear S2 d1
        obtain ⟨k, hk, rfl, hs⟩ := hrel
        have S3 := Lib.hid hs; clear hs
        by_cases hk8 : k < 8
        · obtain ⟨bs, os, eA, hsrc⟩ := (S3.out.extV HR.out) (by rw [HL.out]; omega)
          subst eA
          obtain ⟨x, hx⟩ : ∃ x, ps[k]? = some x := ⟨ps[k]'(by rw [HL.out]; exact hk8), by simp⟩
          have m1 : wr.cell? ⟨bs, os + k, none⟩ = some (.int .u64 (x : Int)) := hsrc k x hx
          have hx64 := H64.out x (List.mem_of_getElem? hx)
          clear hsrc
          have m2 := (S3.out.blk mem0).cellRow (i := j) (by rw [bbk_length]; exact hlt)
          have f2 := (S3.out.blk mem0).free (i := j)
          rw [bbk_get hlt] at m2
          have hp := bb_lt ps j k
          have HP : Hid (bb ps j k + x / 2 ^ j % 2 * 2 ^ k = bb ps j (k + 1)) := Lib.hid (by rw [bb, show ps.getD k 0 = x by simp [hx]])
          clear hx
          generalize bb ps j k = p at *
          have hxk : x / 2 ^ j < 18446744073709551616 := Nat.lt_of_le_of_lt (Nat.div_le_self _ _) hx64
          have hb2 : x / 2 ^ j % 2 ≤ 1 := by omega
          have e0 : (x : Int) / 2 ^ j = ((x / 2 ^ j : Nat) : Int) := by simp
          have e1 : Go.bits .and .u64 ((x / 2 ^ j : Nat) : Int) 1 = ((x / 2 ^ j % 2 : Nat) : Int) := by
            have := Bt.and64 (a := x / 2 ^ j) (b := 1) hxk (by decide)
            rw [Nat.and_one_is_mod] at this; exact this
          obtain ⟨q, HQ⟩ : ∃ q, Hid (x / 2 ^ j = q) := ⟨_, Lib.hid rfl⟩
          rw [HQ.out] at hxk hb2 e0 e1 HP
          obtain ⟨β, HB⟩ : ∃ β, Hid (q % 2 = β) := ⟨_, Lib.hid rfl⟩
          rw [HB.out] at hb2 e1 HP
          have b256 : β * 2 ^ k < 256 := by
            have h1 : 2 ^ k ≤ 2 ^ 7 := Nat.pow_le_pow_right (by decide) (by omega)
            have h2 := Nat.mul_le_mul hb2 h1
            omega
          have p256 : p < 256 := Nat.lt_of_lt_of_le hp (Nat.pow_le_pow_right (n := 2) (i := k) (j := 8) (by decide) (by omega))
          have e2 : IntKind.u8.wrap ((β : Int) * 2 ^ k) = ((β * 2 ^ k : Nat) : Int) := by
            rw [show (β : Int) * 2 ^ k = ((β * 2 ^ k : Nat) : Int) from by simp]; exact Bt.wu8 b256
          have e2' : ((β : Int) * 2 ^ k) % 256 = ((β * 2 ^ k : Nat) : Int) := by
            rw [show (β : Int) * 2 ^ k = ((β * 2 ^ k : Nat) : Int) from by simp]; omega
          obtain ⟨z, HZ⟩ : ∃ z, Hid (β * 2 ^ k = z) := ⟨_, Lib.hid rfl⟩
          rw [HZ.out] at b256 e2 e2' HP
          have e3 : Go.bits .or .u8 (p : Int) (z : Int) = ((p + z : Nat) : Int) := by
            rw [Bt.or8 p256 b256, ← HZ.out, or_bit hp]
          have k1 : (k : Int) < 8 := by omega
          have k0 : (0 : Int) ≤ (k : Int) := by omega
          have j0 : (0 : Int) ≤ (j : Int) := by omega
          go_wp2_with fail
          refine Qt.quiet_tail 13 (by kernel_rfl) (by kernel_rfl) ?_
          simp only [List.take_succ_cons, List.take_zero, List.drop_succ_cons, List.drop_zero]
          repeat (quiet_step (fail))
          refine wpQuiet_nil ?_
          rintro _ ⟨nq, rfl⟩
          go_wp2_with fail
          have S4 := Lib.hid ((S3.out.drewN (n := nq)).setRow (N1 := []) j (bb ps j (k + 1)))
          rw [bbk_step hlt] at S4
          refine ⟨⟨k + 1, by omega, by simp, ?_⟩, ?_⟩
          · rw [show (p : Int) + (z : Int) = ((bb ps j (k + 1) : Nat) : Int) from by rw [← HP.out]; simp]
            exact S4.out
          · simp [intOf]; omega
        · obtain rfl : k = 8 := by omega
          rw [bbk_next] at S3
          go_wp2_with fail
          refine ⟨⟨j + 1, by omega, by simp, S3.out⟩, ?_⟩
          simp [intOf]; omega
    · obtain rfl : j = 64 := by omega
      rw [bbk_done] at S2
      go_wp2_with fail
      go_ret2
      exact ⟨b, rfl, S2.out⟩

end Go.Proofs.Ytcjcolmhhbnmgaa.Sl
