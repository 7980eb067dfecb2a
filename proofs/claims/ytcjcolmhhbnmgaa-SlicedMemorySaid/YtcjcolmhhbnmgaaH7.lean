/- Layer 7: the contracts of the laws' helpers (culletlaw07), over St. -/
import Derived.Test.YtcjcolmhhbnmgaaSu
import Derived.Test.YtcjcolmhhbnmgaaKk
import Derived.Test.YtcjcolmhhbnmgaaOb
import Derived.IntWalk
namespace Go.Proofs.Ytcjcolmhhbnmgaa.Sl
set_option linter.unusedSimpArgs false
set_option linter.unusedVariables false
open Go Go.RowKit Go.Proofs.Ytcjcolmhhbnmgaa Go.Proofs.Ytcjcolmhhbnmgaa.Mm Go.Proofs.Ytcjcolmhhbnmgaa.Gf Go.Proofs.Ytcjcolmhhbnmgaa.Wr Go.Proofs.Ytcjcolmhhbnmgaa.St Go.Proofs.Ytcjcolmhhbnmgaa.Wd

set_option maxRecDepth 100000 in
set_option maxHeartbeats 1000000 in
theorem same_st {A1 A2 : Option Addr} {m c1 c2 : Nat} {l : List Nat} {w : World} (hm : l.length = m) (hl : m ≤ 281474976710656) (h1 : Rd w A1 l) (h2 : Rd w A2 l) :
    Calls Try.prog 15 #[.slice A1 m c1, .slice A2 m c2] w fun e w' => e = .returned (.bool true) ∧ St w w' [] [] := by
  have H1 := Lib.hid h1; have H2 := Lib.hid h2; have HM := Lib.hid hm
  clear h1 h2 hm
  have S0 := Lib.hid (St.start w)
  go_enter Try.func15, Try.ntmps15
  go_wp2
  go_loopw [5] (fun vi wr => ∃ i : Nat, i ≤ m ∧ vi = .int .i64 i ∧ ∃ n, wr = w.drewN n) (fun vi _ => m - (intOf vi).toNat)
  case atStart => exact ⟨0, by omega, rfl, 0, rfl⟩
  case round =>
    obtain ⟨i, hi, rfl, n, rfl⟩ := hrel
    by_cases hlt : i < m
    · obtain ⟨b1, o1, e1, k1⟩ := H1.out (by rw [HM.out]; omega)
      obtain ⟨b2, o2, e2, k2⟩ := H2.out (by rw [HM.out]; omega)
      subst e1 e2
      have m1 := k1 i (by rw [HM.out]; exact hlt)
      have m2 := k2 i (by rw [HM.out]; exact hlt)
      clear k1 k2 H1 H2
      go_wp2
      go_quiet (fail)
      go_wp2
      go_roundw
      case rel => exact ⟨i + 1, by omega, by go_num, _, rfl⟩
      case measure => simp [intOf]; omega
    · clear H1 H2
      go_wp2
      go_ret
      exact ⟨rfl, S0.out.drewN⟩

theorem awk1 : Wr.wr [7, 7, 7] 0 ([128, 1, 0].map (gm (2 : Int).toNat)) = [29, 2, 0] := by decide +kernel
theorem awk2 : ((W8 ((b8 (9259542123273814144 : Int).toNat).map (gm (2 : Int).toNat)) : Nat) : Int) = 2097865012304223517 := by decide +kernel

theorem Srcs.other {w : World} {bd od : Nat} {A : Option Addr} {D l : List Nat} (hr : Rd w A l) (hne : ∀ a, A = some a → a.block ≠ bd) : Srcs w bd od A D l := by
  intro h0
  obtain ⟨bs, os, rfl, hc⟩ := hr h0
  exact ⟨bs, os, rfl, .inr ⟨hne _ rfl, hc⟩⟩
theorem Srcs.own {w : World} {bd od : Nat} {D l : List Nat} (h : ∀ k, k < l.length → D.getD (od + k) 0 = l.getD k 0) : Srcs w bd od (some ⟨bd, od, none⟩) D l :=
  fun _ => ⟨bd, od, rfl, .inl ⟨rfl, rfl, h⟩⟩

set_option maxRecDepth 100000 in
set_option maxHeartbeats 2000000 in
theorem awake_st (p : Addr) (w : World) : Calls Try.prog 13 #[.pointer (some p)] w fun e w' => e = .returned (.bool true) ∧ St w w' [] [] := by
  have S0 := Lib.hid (St.start w)
  go_enter Try.func13, Try.ntmps13
  go_wp2_with (first
    | ((with_reducible refine at_slot (N := 5) rfl ?_); refine ev rfl (bslice_run _ 5 3 _ (row .u8 [7, 7, 7]) rfl (fun _ => by kernel_rfl)) ?_; have h1 := S0.out.alloc 5 (row .u8 [7, 7, 7]); (try simp only [World.size_alloc, List.nil_append, List.cons_append, List.append_eq] at h1); have S1 := Lib.hid h1; clear h1 S0)
    | ((with_reducible refine at_slot (N := 8) rfl ?_); refine ev rfl (bslice_run _ 5 3 _ (row .u8 [128, 1, 0]) rfl (fun _ => by kernel_rfl)) ?_; have h2 := S1.out.alloc 5 (row .u8 [128, 1, 0]); (try simp only [World.size_alloc, List.nil_append, List.cons_append, List.append_eq] at h2); have S2 := Lib.hid h2; clear h2 S1))
  refine (mul_at (n := 3) (D := [7, 7, 7]) (l := [128, 1, 0]) (by decide) (by decide) (S2.out.blk mem1) (by decide) rfl (B8.of_all (by decide)) (B8.of_all (by decide)) (by decide) (by decide) (by decide) (Srcs.other (S2.out.rd mem0) (fun a h => by injection h with h; rw [← h]; exact S2.out.ne 0 1 rfl rfl (by decide)))).mono ?_
  rintro e w3 ⟨rfl, hh⟩
  have h3 := S2.out.callN (N1 := [_]) hh; clear hh S2
  try simp only [List.nil_append, List.cons_append, List.append_eq, Int.toNat_natCast] at h3
  rw [awk1] at h3
  have S3 := Lib.hid h3; clear h3
  go_wp2_with ((with_reducible refine at_slot (N := 14) rfl ?_); refine evg rfl (bslice_run _ 5 3 _ (row .u8 [29, 2, 0]) rfl (fun _ => by kernel_rfl)) ?_; have h4 := S3.out.alloc 5 (row .u8 [29, 2, 0]); (try simp only [World.size_alloc, List.nil_append, List.cons_append, List.append_eq] at h4); have S4 := Lib.hid h4; clear h4 S3)
  refine (same_st (l := [29, 2, 0]) rfl (by decide) (S4.out.rd mem2) (S4.out.rd mem0)).mono ?_
  rintro e w5 ⟨rfl, hh⟩
  have h5 := S4.out.call hh; clear hh S4
  try simp only [List.nil_append, List.cons_append, List.append_eq, Int.toNat_natCast] at h5
  have S5 := Lib.hid h5; clear h5
  go_wp2_with fail
  refine (word_calls 2 9259542123273814144 _ (by decide) (by decide) (by decide) (by decide)).mono ?_
  rintro e w6 ⟨rfl, hh⟩
  have h6 := S5.out.call hh; clear hh S5
  try simp only [List.nil_append, List.cons_append, List.append_eq, Int.toNat_natCast] at h6
  rw [awk2]
  have S6 := Lib.hid h6; clear h6
  go_wp2_with fail
  go_ret
  exact ⟨rfl, S6.out.nil⟩

/-- A list of bytes among marks: three ahead of its n bytes, twelve behind. -/
def Edg (D : List Nat) (n : Nat) : Prop := n + 15 ≤ D.length ∧ ∀ i, i < n + 15 → (i < 3 ∨ 3 + n ≤ i) → D.getD i 0 = if i < 3 then 201 + i else 201 + i - n
theorem edg_wr {D x : List Nat} {n : Nat} (h : Edg D n) (hx : x.length = n) : Edg (Wr.wr D 3 x) n := by
  refine ⟨by rw [wr_length]; exact h.1, fun i hi hc => ?_⟩
  rw [← h.2 i hi hc, List.getD_eq_getElem?_getD, wr_get _ _ _ _ (by have := h.1; omega), if_neg (by omega), ← List.getD_eq_getElem?_getD]
theorem edg_of {D l : List Nat} {n : Nat} (hn : l.length = n) (hle : n + 15 ≤ D.length) (h : D.take (n + 15) = [201, 202, 203] ++ l ++ [204, 205, 206, 207, 208, 209, 210, 211, 212, 213, 214, 215]) : Edg D n ∧ (D.drop 3).take n = l := by
  have hg : ∀ i, i < n + 15 → D.getD i 0 = ([201, 202, 203] ++ l ++ [204, 205, 206, 207, 208, 209, 210, 211, 212, 213, 214, 215]).getD i 0 := fun i hi => by
    rw [← h]; simp [hi]
  refine ⟨⟨hle, fun i hi hc => ?_⟩, ?_⟩
  · rw [hg i hi]
    rcases hc with hc | hc
    · rw [if_pos hc]
      have : i = 0 ∨ i = 1 ∨ i = 2 := by omega
      rcases this with rfl | rfl | rfl <;> simp
    · rw [if_neg (by omega)]
      obtain ⟨k, rfl⟩ : ∃ k, i = 3 + n + k := ⟨i - (3 + n), by omega⟩
      have hk : k < 12 := by omega
      rw [List.getD_eq_getElem?_getD, List.getElem?_append_right (by simp; omega)]
      have e : 3 + n + k - ([201, 202, 203] ++ l).length = k := by simp; omega
      rw [e, show 201 + (3 + n + k) - n = 204 + k from by omega]
      have : k = 0 ∨ k = 1 ∨ k = 2 ∨ k = 3 ∨ k = 4 ∨ k = 5 ∨ k = 6 ∨ k = 7 ∨ k = 8 ∨ k = 9 ∨ k = 10 ∨ k = 11 := by omega
      rcases this with rfl | rfl | rfl | rfl | rfl | rfl | rfl | rfl | rfl | rfl | rfl | rfl <;> rfl
  · have := congrArg (fun k => (k.drop 3).take n) h
    simp only [List.drop_take] at this
    rw [List.take_take, show min n (n + 15 - 3) = n from by omega] at this
    rw [this]
    simp [← hn]

/-- What roomy hands back. -/
def RoomR (w : World) (n : Nat) (l : List Nat) (e : Ending) (w' : World) : Prop :=
  ∃ b D, e = .returned (.tuple #[.slice (some ⟨b, 0, none⟩) (n + 15 : Nat) D.length, .slice (some ⟨b, 3, none⟩) n (D.length - 3 : Nat)]) ∧ Edg D n ∧ (D.drop 3).take n = l ∧ B8 D ∧ D.length ≤ maxLen ∧ St w w' [] [bt b D]

set_option maxRecDepth 100000 in
set_option maxHeartbeats 2000000 in
theorem roomy_st {A : Option Addr} {n cp : Nat} {l : List Nat} {w : World} (hl : l.length = n) (hn : n ≤ 140737488351232) (hr : Rd w A l) (h8 : B8 l) :
    Calls Try.prog 17 #[.slice A n cp] w (RoomR w n l) := by
  have HL := Lib.hid hl; have HR := Lib.hid hr; have H8 := Lib.hid h8
  clear hl hr h8
  have S0 := Lib.hid (St.start w)
  go_enter Try.func17, Try.ntmps17
  go_wp2_with (first
    | ((with_reducible refine at_slot (N := 5) rfl ?_); refine ev rfl (bslice_run _ 5 3 _ (row .u8 [201, 202, 203]) rfl (fun _ => by kernel_rfl)) ?_; have h1 := S0.out.alloc 5 (row .u8 [201, 202, 203]); (try simp only [World.size_alloc, List.nil_append, List.cons_append, List.append_eq] at h1); have S1 := Lib.hid h1; clear h1 S0)
    | ((with_reducible refine at_slot (N := 7) rfl ?_); refine append_on rfl _ _ rfl _ 3 [201, 202, 203] [201, 202, 203] rfl rfl S1.out (by decide) (by decide) (B8.of_all (by decide)) rfl A n cp l rfl HL.out ((S1.out.drop (List.nil_sublist _)).ext HR.out) H8.out (by omega) ?_; intro b D w2 hd1 hd2 hd3 hd4 h2; have HT := Lib.hid hd4; have HD8 := Lib.hid hd3; clear hd4 hd3; (try simp only [World.size_alloc, List.nil_append, List.cons_append, List.append_eq] at h2); have S2 := Lib.hid h2; clear h2 S1)
    | ((with_reducible refine at_slot (N := 9) rfl ?_); refine ev rfl (bslice_run _ 5 12 _ (row .u8 [204, 205, 206, 207, 208, 209, 210, 211, 212, 213, 214, 215]) rfl (fun _ => by kernel_rfl)) ?_; have h3 := S2.out.alloc 5 (row .u8 [204, 205, 206, 207, 208, 209, 210, 211, 212, 213, 214, 215]); (try simp only [World.size_alloc, List.nil_append, List.cons_append, List.append_eq] at h3); have S3 := Lib.hid h3; clear h3 S2)
    | ((with_reducible refine at_slot (N := 10) rfl ?_); refine append_on rfl _ _ rfl b (3 + n) D ([201, 202, 203] ++ l) (by simp [HL.out]; omega) rfl (S3.out.perm (.swap _ _ _)) hd1 hd2 HD8.out HT.out _ 12 12 [204, 205, 206, 207, 208, 209, 210, 211, 212, 213, 214, 215] rfl rfl (S3.out.rd mem0) (B8.of_all (by decide)) (by omega) ?_; intro b4 D4 w4 he1 he2 he3 he4 h4; have HT4 := Lib.hid he4; have HD48 := Lib.hid he3; clear he4 he3; (try simp only [World.size_alloc, List.nil_append, List.cons_append, List.append_eq] at h4); have S4 := Lib.hid h4; clear h4 S3))
  obtain ⟨HE, hp⟩ := edg_of (D := D4) HL.out (by omega) (by have := HT4.out; rw [show n + 15 = 3 + n + 12 from by omega, this])
  have HP := Lib.hid hp; have HEE := Lib.hid HE; clear hp HE
  have hN1 : Hid ((3 + n + 12 : Nat) = n + 15) := Lib.hid (by omega)
  have q1 : (3 : Int) + (n : Int) ≤ (D4.length : Int) := by omega
  have q2 : ¬ D4.length = 3 := by omega
  have q3 : (0 : Int) ≤ 3 + (n : Int) := by omega
  have q4 : (3 + (n : Int)).toNat = 3 + n := by omega
  have q5 : IntKind.i64.wrap (3 + (n : Int)) = 3 + (n : Int) := IntWalk.i64_in _ (by omega)
  go_quiet (fail)
  clear q4 q5
  go_wp2_with fail
  go_ret2
  refine ⟨b4, D4, ?_, HEE.out, HP.out, HD48.out, he2, S4.out.drewN.drop (.cons_cons _ (List.nil_sublist _))⟩
  rw [← hN1.out]
  first | rfl | simp


set_option maxRecDepth 100000 in
set_option maxHeartbeats 2000000 in
theorem edges_st {b n cp : Nat} {D : List Nat} {w : World} (hd : Bytes w b D) (he : Edg D n) (hn : n ≤ 140737488351232) :
    Calls Try.prog 19 #[.slice (some ⟨b, 0, none⟩) (n + 15 : Nat) cp, .int .i64 (n : Int)] w fun e w' => e = .returned (.bool true) ∧ w = w' := by
  have HD := Lib.hid hd; have HE := Lib.hid he
  obtain ⟨N, hN⟩ : ∃ N, N = n + 15 := ⟨_, rfl⟩
  rw [← hN]
  have hN1 : (N : Int) = (n : Int) + 15 := by omega
  have HN := Lib.hid hN; have HN1 := Lib.hid hN1
  have e9 : ((N : Int) == (n : Int) + 15) = true := beq_iff_eq.2 hN1
  have hb0 : N ≤ 140737488351232 + 15 := by omega
  clear hd he hN hN1
  go_enter Try.func19, Try.ntmps19
  go_wp2_with fail
  go_loopw [5] (fun vi wr => ∃ i : Nat, i ≤ 3 ∧ vi = .int .i64 i ∧ wr = w) (fun vi _ => 3 - (intOf vi).toNat)
  case atStart => exact ⟨0, by omega, rfl, rfl⟩
  case round =>
    obtain ⟨i, hi, rfl, rfl⟩ := hrel
    by_cases hlt : i < 3
    · have m1 := HD.out.cellRow (i := i) (by have := HE.out.1; omega)
      rw [HE.out.2 i (by omega) (.inl hlt), if_pos hlt] at m1
      have i0 : (i : Int) < (N : Int) := by have := HN.out; omega
      have iN : i < N := by have := HN.out; omega
      have e1 : (201 + (i : Int)) % 256 = ((201 + i : Nat) : Int) := by omega
      have e2 : (((201 + i : Nat) : Int) != ((201 + i : Nat) : Int)) = false := by simp
      have e3 : ((201 + (i : Int)) != (201 + (i : Int))) = false := by simp
      have e4 : (201 + (i : Int)) % 256 = 201 + (i : Int) := by omega
      go_wp2_with fail
      go_roundw
      case rel => exact ⟨i + 1, by omega, by go_num, trivial⟩
      case measure => simp [intOf]; omega
    · obtain rfl : i = 3 := by omega
      go_wp2_with fail
      go_loopw [6] (fun vi wr2 => ∃ i : Nat, 3 + n ≤ i ∧ i ≤ N ∧ vi = .int .i64 i ∧ wr2 = wr) (fun vi _ => N - (intOf vi).toNat)
      case atStart => exact ⟨3 + n, by omega, by have := HN.out; omega, by simp, rfl⟩
      case round =>
        obtain ⟨i, hi1, hi2, rfl, rfl⟩ := hrel
        by_cases hlt : i < N
        · have m1 := HD.out.cellRow (i := i) (by have := HE.out.1; have := HN.out; omega)
          rw [HE.out.2 i (by have := HN.out; omega) (.inr hi1), if_neg (by omega)] at m1
          have hb := HN.out
          have i0 : (i : Int) < (N : Int) := by omega
          have e1 : (201 + (i : Int) - (n : Int)) % 256 = 201 + (i : Int) - (n : Int) := by omega
          have c0 : ((201 + i - n : Nat) : Int) = 201 + (i : Int) - (n : Int) := by omega
          rw [c0] at m1
          have e3 : ((201 + (i : Int) - (n : Int)) != (201 + (i : Int) - (n : Int))) = false := by simp
          clear hb c0
          go_wp2_with fail
          go_roundw
          case rel => exact ⟨i + 1, by omega, by omega, by go_num, trivial⟩
          case measure => simp [intOf]; omega
        · go_wp2_with fail
          go_ret
          exact ⟨rfl, rfl⟩

end Go.Proofs.Ytcjcolmhhbnmgaa.Sl
