/- Layer 8: the kernel's calls as the laws use them; the contracts of the laws' helpers (culletlaw08). -/
import Derived.Test.YtadgjmlkpnifoaaPw
namespace Go.Proofs.Ytadgjmlkpnifoaa.Pq
set_option linter.unusedSimpArgs false
set_option linter.unusedVariables false
open Go Go.RowKit Go.Proofs.Ytadgjmlkpnifoaa Go.Proofs.Ytadgjmlkpnifoaa.Mm Go.Proofs.Ytadgjmlkpnifoaa.Gh Go.Proofs.Ytadgjmlkpnifoaa.Wr Go.Proofs.Ytadgjmlkpnifoaa.St

/-- dst, a list from its head on, becomes c times src. -/
theorem mul_st {p : Addr} {c : Int} {bd n cd : Nat} {A : Option Addr} {cs : Nat} {D l : List Nat} {w : World} (hc0 : 0 ≤ c) (hc : c < 65536) (hd : Bytes w bd D) (hD : D.length = n) (hl : l.length = n) (h2 : n % 2 = 0) (h8 : B8 l) (hnm : n ≤ 281474976710656)
    (hs : Srcs w bd 0 A D l) :
    Calls Try.prog 13 #[.pointer (some p), .int .u16 c, .slice (some ⟨bd, 0, none⟩) n cd, .slice A n cs] w fun e w' => e = .returned (.int .i64 0) ∧ St w w' [bt bd (pm c.toNat l)] [] := by
  obtain ⟨c, rfl⟩ := Int.eq_ofNat_of_zero_le hc0
  refine (mul_at (by omega) hd (by omega) hl h2 h8 hnm hs).mono fun e w' ⟨he, hm⟩ => ⟨he, ?_⟩
  rw [wr_all _ _ (by rw [pm_length, hD, hl])] at hm
  exact hm
/-- .. is added to it. -/
def xs (a b : List Nat) : List Nat := xl 0 a b
theorem xs_length (a b : List Nat) : (xs a b).length = b.length := xl_length _ _ _
theorem xs_get {a b : List Nat} {i : Nat} (h : i < b.length) : (xs a b).getD i 0 = a.getD i 0 ^^^ b.getD i 0 := by unfold xs; rw [xl_get h, Nat.zero_add]
theorem add_st {p : Addr} {c : Int} {bd n cd : Nat} {A : Option Addr} {cs : Nat} {D l : List Nat} {w : World} (hc0 : 0 ≤ c) (hc : c < 65536) (hd : Bytes w bd D) (hD : D.length = n) (hl : l.length = n) (h2 : n % 2 = 0) (h8 : B8 l) (hD8 : B8 D) (hnm : n ≤ 281474976710656)
    (hs : Srcs w bd 0 A D l) :
    Calls Try.prog 14 #[.pointer (some p), .int .u16 c, .slice (some ⟨bd, 0, none⟩) n cd, .slice A n cs] w fun e w' => e = .returned (.int .i64 0) ∧ St w w' [bt bd (xs D (pm c.toNat l))] [] := by
  obtain ⟨c, rfl⟩ := Int.eq_ofNat_of_zero_le hc0
  refine (add_at (by omega) hd (by omega) hl h2 h8 hD8 hnm hs).mono fun e w' ⟨he, hm⟩ => ⟨he, ?_⟩
  rw [wr_all _ _ (by rw [xl_len, hD, hl])] at hm
  exact hm

theorem xs_b8 {a b : List Nat} (ha : B8 a) (hb : B8 b) : B8 (xs a b) := by
  intro x hx
  obtain ⟨i, hi, rfl⟩ := List.mem_map.1 hx
  exact Nat.xor_lt_two_pow (n := 8) (get256 ha _) (get256 hb _)

theorem new_st (w : World) : Calls Try.prog 32 #[] w fun e w' => ∃ p, e = .returned (.pointer (some p)) ∧ St w w' [] [] := by
  have S0 := Lib.hid ((St.start w).alloc 75 #[.bool true])
  go_enter Try.func32, Try.ntmps32
  go_wp2
  go_ret
  exact ⟨_, rfl, S0.out.nil⟩

set_option maxRecDepth 100000 in
set_option maxHeartbeats 1000000 in
theorem equal_st {A1 A2 : Option Addr} {m c1 c2 : Nat} {l : List Nat} {w : World} (hm : l.length = m) (hl : m ≤ 281474976710656) (h1 : Rd w A1 l) (h2 : Rd w A2 l) :
    Calls Try.prog 15 #[.slice A1 m c1, .slice A2 m c2] w fun e w' => e = .returned (.bool true) ∧ St w w' [] [] := by
  have H1 := Lib.hid h1; have H2 := Lib.hid h2; have HM := Lib.hid hm
  clear h1 h2 hm
  have S0 := Lib.hid (St.start w)
  go_enter Try.func15, Try.ntmps15
  go_wp2
  go_loopw [5] (fun vi wr => ∃ i : Nat, i ≤ m ∧ vi = .int .i64 i ∧ ∃ n, wr = w.drewN n) (fun vi _ => m - (intOf vi).toNat)
  case atStart => exact ⟨0, by omega, rfl, 0, rfl⟩
  case round =>
    obtain ⟨i, hi, rfl, n, rfl⟩ := hrel
    by_cases hlt : i < m
    · obtain ⟨b1, o1, e1, k1⟩ := H1.out (by rw [HM.out]; omega)
      obtain ⟨b2, o2, e2, k2⟩ := H2.out (by rw [HM.out]; omega)
      subst e1 e2
      have m1 := k1 i (by rw [HM.out]; exact hlt)
      have m2 := k2 i (by rw [HM.out]; exact hlt)
      clear k1 k2 H1 H2
      go_wp2
      go_quiet (fail)
      go_wp2
      go_roundw
      case rel => exact ⟨i + 1, by omega, by go_num, _, rfl⟩
      case measure => simp [intOf]; omega
    · clear H1 H2
      go_wp2
      go_ret
      exact ⟨rfl, S0.out.drewN⟩

set_option maxRecDepth 100000 in
set_option maxHeartbeats 1000000 in
theorem alike_st {A1 A2 : Option Addr} {m c1 c2 : Nat} {l : List Nat} {w : World} (hm : l.length = m) (hl : m ≤ 281474976710656) (h1 : RdV e16 w A1 l) (h2 : RdV e16 w A2 l) :
    Calls Try.prog 26 #[.slice A1 m c1, .slice A2 m c2] w fun e w' => e = .returned (.bool true) ∧ St w w' [] [] := by
  have H1 := Lib.hid h1; have H2 := Lib.hid h2; have HM := Lib.hid hm
  clear h1 h2 hm
  have S0 := Lib.hid (St.start w)
  go_enter Try.func26, Try.ntmps26
  go_wp2
  go_loopw [5] (fun vi wr => ∃ i : Nat, i ≤ m ∧ vi = .int .i64 i ∧ ∃ n, wr = w.drewN n) (fun vi _ => m - (intOf vi).toNat)
  case atStart => exact ⟨0, by omega, rfl, 0, rfl⟩
  case round =>
    obtain ⟨i, hi, rfl, n, rfl⟩ := hrel
    by_cases hlt : i < m
    · obtain ⟨b1, o1, e1, k1⟩ := H1.out (by rw [HM.out]; omega)
      obtain ⟨b2, o2, e2, k2⟩ := H2.out (by rw [HM.out]; omega)
      subst e1 e2
      obtain ⟨x, hx⟩ : ∃ x, l[i]? = some x := ⟨l[i]'(by rw [HM.out]; exact hlt), by simp⟩
      have m1 : w.cell? ⟨b1, o1 + i, none⟩ = some (.int .u16 (x : Int)) := k1 i x hx
      have m2 : w.cell? ⟨b2, o2 + i, none⟩ = some (.int .u16 (x : Int)) := k2 i x hx
      clear k1 k2 H1 H2 hx
      go_wp2
      go_quiet (fail)
      go_wp2
      go_roundw
      case rel => exact ⟨i + 1, by omega, by go_num, _, rfl⟩
      case measure => simp [intOf]; omega
    · clear H1 H2
      go_wp2
      go_ret
      exact ⟨rfl, S0.out.drewN⟩

theorem even_st (A : Option Addr) (n cp : Nat) (w : World) (h : n ≤ cp) (hn : n ≤ 140737488351232) : Calls Try.prog 16 #[.slice A n cp] w fun e w' => e = .returned (.slice A (n / 2 * 2 : Nat) cp) ∧ w = w' := by
  obtain ⟨q, hq⟩ : ∃ q, n / 2 * 2 = q := ⟨_, rfl⟩
  rw [hq]
  have q1 : (n : Int) / 2 * 2 = (q : Int) := by omega
  have q2 : Int.tdiv (n : Int) 2 * 2 = (q : Int) := by rw [Int.tdiv_eq_ediv_of_nonneg (by omega)]; omega
  have q3 : (q : Int) ≤ (cp : Int) := by omega
  have q4 : q ≤ cp := by omega
  clear hq
  go_enter Try.func16, Try.ntmps16
  go_wp2_with fail
  go_ret
  exact ⟨rfl, rfl⟩

theorem aw1 : pm (2 : Int).toNat [1, 0, 0, 128] = [2, 0, 45, 0] := by decide +kernel
theorem aw2 : xs [2, 0, 45, 0] (pm (1 : Int).toNat [1, 2, 3, 4]) = [3, 2, 46, 4] := by decide +kernel
theorem aw3 : ws [3, 2, 46, 4] = [515, 1070] := by decide +kernel

set_option maxRecDepth 100000 in
set_option maxHeartbeats 2000000 in
theorem awake_st (w : World) : Calls Try.prog 12 #[] w fun e w' => ∃ p, e = .returned (.pointer (some p)) ∧ St w w' [] [] := by
  have S0 := Lib.hid (St.start w)
  go_enter Try.func12, Try.ntmps12
  go_wp2_with fail
  refine (new_st _).mono ?_
  rintro e w1 ⟨p, rfl, hh⟩
  have h1 := S0.out.call hh; clear hh S0
  try simp only [List.nil_append, List.cons_append, List.append_eq, Int.toNat_natCast] at h1
  have S1 := Lib.hid h1; clear h1
  go_wp2_with (first
    | ((with_reducible refine at_slot (N := 8) rfl ?_); refine ev rfl (bslice_run _ 5 4 _ (row .u8 [9, 9, 9, 9]) rfl (fun _ => by kernel_rfl)) ?_; have h2 := S1.out.alloc 5 (row .u8 [9, 9, 9, 9]); (try simp only [World.size_alloc, List.nil_append, List.cons_append, List.append_eq] at h2); have S2 := Lib.hid h2; clear h2 S1)
    | ((with_reducible refine at_slot (N := 11) rfl ?_); refine ev rfl (bslice_run _ 5 4 _ (row .u8 [1, 0, 0, 128]) rfl (fun _ => by kernel_rfl)) ?_; have h3 := S2.out.alloc 5 (row .u8 [1, 0, 0, 128]); (try simp only [World.size_alloc, List.nil_append, List.cons_append, List.append_eq] at h3); have S3 := Lib.hid h3; clear h3 S2))
  refine (mul_st (n := 4) (D := [9, 9, 9, 9]) (l := [1, 0, 0, 128]) (by decide) (by decide) (S3.out.blk mem1) rfl rfl rfl (B8.of_all (by decide)) (by decide) (Srcs.new (S3.out.rd mem0) (S3.out.ne 0 1 rfl rfl (by decide)))).mono ?_
  rintro e w4 ⟨rfl, hh⟩
  have h4 := S3.out.callN (N1 := [_]) hh; clear hh S3
  try simp only [List.nil_append, List.cons_append, List.append_eq, Int.toNat_natCast] at h4
  rw [aw1] at h4
  have S4 := Lib.hid h4; clear h4
  go_wp2_with ((with_reducible refine at_slot (N := 16) rfl ?_); refine evg rfl (bslice_run _ 5 4 _ (row .u8 [2, 0, 45, 0]) rfl (fun _ => by kernel_rfl)) ?_; have h5 := S4.out.alloc 5 (row .u8 [2, 0, 45, 0]); (try simp only [World.size_alloc, List.nil_append, List.cons_append, List.append_eq] at h5); have S5 := Lib.hid h5; clear h5 S4)
  refine (equal_st (l := [2, 0, 45, 0]) rfl (by decide) (S5.out.rd mem2) (S5.out.rd mem0)).mono ?_
  rintro e w6 ⟨rfl, hh⟩
  have h6 := S5.out.call hh; clear hh S5
  try simp only [List.nil_append, List.cons_append, List.append_eq, Int.toNat_natCast] at h6
  have S6 := Lib.hid h6; clear h6
  go_wp2_with ((with_reducible refine at_slot (N := 22) rfl ?_); refine ev rfl (bslice_run _ 5 4 _ (row .u8 [1, 2, 3, 4]) rfl (fun _ => by kernel_rfl)) ?_; have h7 := S6.out.alloc 5 (row .u8 [1, 2, 3, 4]); (try simp only [World.size_alloc, List.nil_append, List.cons_append, List.append_eq] at h7); have S7 := Lib.hid h7; clear h7 S6)
  refine (add_st (n := 4) (D := [2, 0, 45, 0]) (l := [1, 2, 3, 4]) (by decide) (by decide) (S7.out.blk mem3) rfl rfl rfl (B8.of_all (by decide)) (B8.of_all (by decide)) (by decide) (Srcs.new (S7.out.rd mem0) (S7.out.ne 0 3 rfl rfl (by decide)))).mono ?_
  rintro e w8 ⟨rfl, hh⟩
  have h8 := S7.out.callN (N1 := [_, _, _]) hh; clear hh S7
  try simp only [List.nil_append, List.cons_append, List.append_eq, Int.toNat_natCast] at h8
  rw [aw2] at h8
  have S8 := Lib.hid h8; clear h8
  go_wp2_with ((with_reducible refine at_slot (N := 27) rfl ?_); refine evg rfl (bslice_run _ 5 4 _ (row .u8 [3, 2, 46, 4]) rfl (fun _ => by kernel_rfl)) ?_; have h9 := S8.out.alloc 5 (row .u8 [3, 2, 46, 4]); (try simp only [World.size_alloc, List.nil_append, List.cons_append, List.append_eq] at h9); have S9 := Lib.hid h9; clear h9 S8)
  refine (equal_st (l := [3, 2, 46, 4]) rfl (by decide) (S9.out.rd mem4) (S9.out.rd mem0)).mono ?_
  rintro e w10 ⟨rfl, hh⟩
  have h10 := S9.out.call hh; clear hh S9
  try simp only [List.nil_append, List.cons_append, List.append_eq, Int.toNat_natCast] at h10
  have S10 := Lib.hid h10; clear h10
  go_wp2_with fail
  refine (Words_st (n := 4) (l := [3, 2, 46, 4]) rfl rfl (by decide) (S10.out.rd mem4) (B8.of_all (by decide))).mono ?_
  rintro e w11 ⟨wb, rfl, hh⟩
  have h11 := S10.out.call hh; clear hh S10
  try simp only [List.nil_append, List.cons_append, List.append_eq, Int.toNat_natCast] at h11
  rw [aw3] at h11
  have S11 := Lib.hid h11; clear h11
  go_wp2_with ((with_reducible refine at_slot (N := 40) rfl ?_); refine evg rfl (bslice_run _ 23 2 _ (row .u16 [515, 1070]) rfl (fun _ => by kernel_rfl)) ?_; have h12 := S11.out.alloc 23 (row .u16 [515, 1070]); (try simp only [World.size_alloc, List.nil_append, List.cons_append, List.append_eq] at h12); have S12 := Lib.hid h12; clear h12 S11)
  refine (alike_st (l := [515, 1070]) rfl (by decide) (S12.out.rdV mem1) (S12.out.rdV mem0)).mono ?_
  rintro e w13 ⟨rfl, hh⟩
  have h13 := S12.out.call hh; clear hh S12
  try simp only [List.nil_append, List.cons_append, List.append_eq, Int.toNat_natCast] at h13
  have S13 := Lib.hid h13; clear h13
  go_wp2_with fail
  go_ret
  exact ⟨_, rfl, S13.out.nil⟩

end Go.Proofs.Ytadgjmlkpnifoaa.Pq
