/- The law SlicedLinear. -/
import Derived.Test.YtcjcolmhhbnmgaaK1
import Derived.Test.YtcjcolmhhbnmgaaG9
namespace Go.Proofs.Ytcjcolmhhbnmgaa.Sl
set_option linter.unusedSimpArgs false
set_option linter.unusedVariables false
open Go Go.RowKit Go.Proofs.Ytcjcolmhhbnmgaa Go.Proofs.Ytcjcolmhhbnmgaa.Mm Go.Proofs.Ytcjcolmhhbnmgaa.Gf Go.Proofs.Ytcjcolmhhbnmgaa.Wr Go.Proofs.Ytcjcolmhhbnmgaa.St Go.Proofs.Ytcjcolmhhbnmgaa.Wd

theorem Srcs.ext {w0 w : World} {N : List Ent} {bd od : Nat} {t : TypeId} {A : Option Addr} {X : Array Value} {D l : List Nat} (h : St w0 w [] N) (m : (⟨bd, t, X⟩ : Ent) ∈ N) (r : Rd w0 A l) : Srcs w bd od A D l := by
  intro h0
  obtain ⟨bs, os, rfl, hc⟩ := r h0
  have h1 := cell_lt (hc 0 h0)
  have h2 := h.ge m
  obtain ⟨bs', os', e, hc'⟩ := (h.ext (fun _ => ⟨bs, os, rfl, hc⟩ : Rd w0 (some ⟨bs, os, none⟩) l)) h0
  injection e with e; injection e with e1 e2 _; subst e1 e2
  exact ⟨bs, os, rfl, .inr ⟨by simp at h1; omega, hc'⟩⟩
theorem Srcs.new {w : World} {bd od b o : Nat} {D l : List Nat} (r : Rd w (some ⟨b, o, none⟩) l) (hne : b ≠ bd) : Srcs w bd od (some ⟨b, o, none⟩) D l :=
  Srcs.other r (fun a h => by injection h with h; rw [← h]; exact hne)
theorem Srcs.self {w : World} {bd : Nat} {D : List Nat} : Srcs w bd 0 (some ⟨bd, 0, none⟩) D D := Srcs.own (fun k _ => by rw [Nat.zero_add])

theorem inv_z' {c : Nat} (h : c = 0) (w : World) : Calls Try.prog 21 #[.int .u8 (c : Int)] w fun e w' => e = .returned (.tuple #[.int .u8 0, .int .i64 20]) ∧ w = w' := by
  subst h
  exact (G8.inv_calls 0 w (by decide)).mono fun e w' ⟨he, hw⟩ => ⟨by rw [he]; rfl, hw⟩
theorem inv_nz (c : Nat) (w : World) (hc : c < 256) (h0 : c ≠ 0) : Calls Try.prog 21 #[.int .u8 c] w fun e w' => e = .returned (.tuple #[.int .u8 ((pw c 254 : Nat) : Int), .int .i64 0]) ∧ w = w' :=
  (G8.inv_calls c w hc).mono fun e w' ⟨he, hw⟩ => ⟨by rw [he]; unfold two iv; rw [if_neg h0], hw⟩

/-- dst, a list from its head on, becomes c times src. -/
theorem mul_st {p : Addr} {c : Int} {bd n cd : Nat} {A : Option Addr} {cs : Nat} {D l : List Nat} {w : World} (hc0 : 0 ≤ c) (hc : c < 256) (hd : Bytes w bd D) (hD : D.length = n) (hl : l.length = n) (h8 : B8 l) (hD8 : B8 D) (hcd : n ≤ cd) (hcs : n ≤ cs) (hnm : n ≤ 281474976710656)
    (hs : Srcs w bd 0 A D l) :
    Calls Try.prog 14 #[.pointer (some p), .int .u8 c, .slice (some ⟨bd, 0, none⟩) n cd, .slice A n cs] w fun e w' => e = .returned (.int .i64 0) ∧ St w w' [bt bd (l.map (gm c.toNat))] [] := by
  refine (mul_at hc0 hc hd (by omega) hl h8 hD8 hcd hcs hnm hs).mono fun e w' ⟨he, hm⟩ => ⟨he, ?_⟩
  rw [wr_all _ _ (by simp [hD, hl])] at hm
  exact hm
/-- .. is added to it. -/
theorem add_st {p : Addr} {c : Int} {bd n cd : Nat} {A : Option Addr} {cs : Nat} {D l : List Nat} {w : World} (hc0 : 0 ≤ c) (hc : c < 256) (hd : Bytes w bd D) (hD : D.length = n) (hl : l.length = n) (h8 : B8 l) (hD8 : B8 D) (hcd : n ≤ cd) (hcs : n ≤ cs) (hnm : n ≤ 281474976710656)
    (hs : Srcs w bd 0 A D l) :
    Calls Try.prog 18 #[.pointer (some p), .int .u8 c, .slice (some ⟨bd, 0, none⟩) n cd, .slice A n cs] w fun e w' => e = .returned (.int .i64 0) ∧ St w w' [bt bd (xs D (l.map (gm c.toNat)))] [] := by
  refine (add_at hc0 hc hd (by omega) hl h8 hD8 hcd hcs hnm hs).mono fun e w' ⟨he, hm⟩ => ⟨he, ?_⟩
  rw [hl, add_xs hD hl] at hm
  exact hm

/-- Nothing to do. -/
theorem mul_zero {p : Addr} {c : Int} {A B : Option Addr} {cd cs : Nat} {w : World} (hc0 : 0 ≤ c) (hc : c < 256) :
    Calls Try.prog 14 #[.pointer (some p), .int .u8 c, .slice A 0 cd, .slice B 0 cs] w fun e w' => e = .returned (.int .i64 0) ∧ St w w' [] [] := by
  obtain ⟨c, rfl⟩ := Int.eq_ofNat_of_zero_le hc0
  have hc' : c < 256 := by omega
  have S0 := Lib.hid (St.start w)
  go_enter Try.func14, Try.ntmps14
  go_wp2_with fail
  refine (refuses_ok _ _ _ _ _ _ _).mono ?_
  rintro e _ ⟨rfl, rfl⟩
  go_wp2_with fail
  refine (run_zero c 0 _ _ _ _ _ hc').mono ?_
  rintro e w1 ⟨rfl, hh⟩
  have h1 := S0.out.call hh; clear hh S0
  try simp only [List.nil_append, List.cons_append, List.append_eq, Int.toNat_natCast] at h1
  have S1 := Lib.hid h1; clear h1
  go_wp2_with fail
  go_ret
  exact ⟨rfl, S1.out⟩
theorem add_zero {p : Addr} {c : Int} {A B : Option Addr} {cd cs : Nat} {w : World} (hc0 : 0 ≤ c) (hc : c < 256) :
    Calls Try.prog 18 #[.pointer (some p), .int .u8 c, .slice A 0 cd, .slice B 0 cs] w fun e w' => e = .returned (.int .i64 0) ∧ St w w' [] [] := by
  obtain ⟨c, rfl⟩ := Int.eq_ofNat_of_zero_le hc0
  have hc' : c < 256 := by omega
  have S0 := Lib.hid (St.start w)
  go_enter Try.func18, Try.ntmps18
  go_wp2_with fail
  refine (refuses_ok _ _ _ _ _ _ _).mono ?_
  rintro e _ ⟨rfl, rfl⟩
  go_wp2_with fail
  refine (run_zero c 255 _ _ _ _ _ hc').mono ?_
  rintro e w1 ⟨rfl, hh⟩
  have h1 := S0.out.call hh; clear hh S0
  try simp only [List.nil_append, List.cons_append, List.append_eq, Int.toNat_natCast] at h1
  have S1 := Lib.hid h1; clear h1
  go_wp2_with fail
  go_ret
  exact ⟨rfl, S1.out⟩

theorem xor8_any {c d : Nat} (hc : c < 256) (hd : d < 256) : Go.bits .xor .u8 (c : Int) (d : Int) = ((c ^^^ d : Nat) : Int) := Bt.xor8 hc hd
theorem zs_len (n : Nat) : (zs n).length = n := zs_length n
theorem zs_b8 (n : Nat) : B8 (zs n) := B8.zeros n

set_option maxRecDepth 100000 in
set_option maxHeartbeats 4000000 in
theorem linear_walk (c d : Nat) (A : Option Addr) (n cp : Nat) (l : List Nat) (w : World) (hc : c < 256) (hd : d < 256) (h : (Kk.kSlice Kk.kByte 1).ok w.heap.size w [.slice A n cp] l) :
    Calls Try.prog 5 #[.int .u8 c, .int .u8 d, .slice A n cp] w fun e w' => e = .returned (.bool true) ∧ Below w.heap.size w w' := by
  obtain ⟨hl, hn, hcp, hr, h8, _⟩ := open_bytes h
  have HL := Lib.hid hl; have HR := Lib.hid hr; have H8 := Lib.hid h8
  have HM := fun k => Lib.hid (show (l.map (gm k)).length = n by rw [List.length_map, hl])
  have MC := HM c; have MD := HM d; have MCD := HM (c ^^^ d)
  have hx : c ^^^ d < 256 := xor_lt hc hd
  have hg : gm c d < 256 := gm_lt _ hc
  have E1 := Lib.hid (map_left hc hd (l := l))
  have E2 := Lib.hid (map_assoc hc hd h8)
  have MDC : Hid (((l.map (gm d)).map (gm c)).length = n) := Lib.hid (by rw [List.length_map, MD.out])
  have BC : Hid (B8 (l.map (gm c))) := Lib.hid (map_b8 hc)
  have BD : Hid (B8 (l.map (gm d))) := Lib.hid (map_b8 hd)
  have BX : Hid (B8 (xs (l.map (gm c)) (l.map (gm d)))) := Lib.hid (xs_b8 BC.out BD.out (by rw [MC.out, MD.out]))
  have MX : Hid ((xs (l.map (gm c)) (l.map (gm d))).length = n) := Lib.hid (by rw [xs_length, MC.out])
  have eX : Go.bits .xor .u8 (c : Int) (d : Int) = ((c ^^^ d : Nat) : Int) := Bt.xor8 hc hd
  have hn3 : n ≤ 281474976710656 := by omega
  clear h hl hr h8 HM
  have S0 := Lib.hid (St.start w)
  go_enter Try.func5, Try.ntmps5
  go_wp2_with fail
  refine (new_st _).mono ?_
  rintro e w1 ⟨p, rfl, hh⟩
  have h1 := S0.out.call hh; clear hh S0
  try simp only [List.nil_append, List.cons_append, List.append_eq, Int.toNat_natCast] at h1
  have S1 := Lib.hid h1; clear h1
  go_wp2_with fail
  refine (awake_st _ _).mono ?_
  rintro e w2 ⟨rfl, hh⟩
  have h2 := S1.out.call hh; clear hh S1
  try simp only [List.nil_append, List.cons_append, List.append_eq, Int.toNat_natCast] at h2
  have S2 := Lib.hid h2; clear h2
  go_wp2_with (first
    | ((with_reducible refine at_slot (N := 21) rfl ?_); refine make_law rfl 22 5 _ .u8 (n) 1 rfl rfl Try.underlying22 info_u8 (by omega) (by omega) S2.out ?_; intro ba w3 h3; (try simp only [World.size_alloc, List.nil_append, List.cons_append, List.append_eq] at h3); have S3 := Lib.hid h3; clear h3 S2)
    | ((with_reducible refine at_slot (N := 23) rfl ?_); refine make_law rfl 22 5 _ .u8 (n) 1 rfl rfl Try.underlying22 info_u8 (by omega) (by omega) S3.out ?_; intro bb w4 h4; (try simp only [World.size_alloc, List.nil_append, List.cons_append, List.append_eq] at h4); have S4 := Lib.hid h4; clear h4 S3)
    | ((with_reducible refine at_slot (N := 25) rfl ?_); refine make_law rfl 22 5 _ .u8 (n) 1 rfl rfl Try.underlying22 info_u8 (by omega) (by omega) S4.out ?_; intro bx w5 h5; (try simp only [World.size_alloc, List.nil_append, List.cons_append, List.append_eq] at h5); have S5 := Lib.hid h5; clear h5 S4))
  refine (mul_st (by omega) (by omega) (S5.out.blk mem2) (zs_len n) HL.out H8.out (zs_b8 n) (Nat.le_refl _) hcp hn3 (Srcs.ext S5.out mem2 HR.out)).mono ?_
  rintro e w6 ⟨rfl, hh⟩
  have h6 := S5.out.callN (N1 := [_, _]) hh; clear hh S5
  try simp only [List.nil_append, List.cons_append, List.append_eq, Int.toNat_natCast] at h6
  have S6 := Lib.hid h6; clear h6
  go_wp2_with fail
  refine (add_st (by omega) (by omega) (S6.out.blk mem2) MC.out HL.out H8.out BC.out (Nat.le_refl _) hcp hn3 (Srcs.ext S6.out mem2 HR.out)).mono ?_
  rintro e w7 ⟨rfl, hh⟩
  have h7 := S6.out.callN (N1 := [_, _]) hh; clear hh S6
  try simp only [List.nil_append, List.cons_append, List.append_eq, Int.toNat_natCast] at h7
  have S7 := Lib.hid h7; clear h7
  go_wp2_with fail
  refine (mul_st (by omega) (by omega) (S7.out.blk mem1) (zs_len n) HL.out H8.out (zs_b8 n) (Nat.le_refl _) hcp hn3 (Srcs.ext S7.out mem1 HR.out)).mono ?_
  rintro e w8 ⟨rfl, hh⟩
  have h8 := S7.out.callN (N1 := [_]) hh; clear hh S7
  try simp only [List.nil_append, List.cons_append, List.append_eq, Int.toNat_natCast] at h8
  rw [E1.out] at h8
  have S8 := Lib.hid h8; clear h8
  go_wp2_with fail
  refine (same_st MX.out hn3 (S8.out.rd mem2) (S8.out.rd mem1)).mono ?_
  rintro e w9 ⟨rfl, hh⟩
  have h9 := S8.out.call hh; clear hh S8
  try simp only [List.nil_append, List.cons_append, List.append_eq, Int.toNat_natCast] at h9
  have S9 := Lib.hid h9; clear h9
  go_wp2_with fail
  refine (mul_st (by omega) (by omega) (S9.out.blk mem2) MX.out HL.out H8.out BX.out (Nat.le_refl _) hcp hn3 (Srcs.ext S9.out mem2 HR.out)).mono ?_
  rintro e w10 ⟨rfl, hh⟩
  have h10 := S9.out.callN (N1 := [_, _]) hh; clear hh S9
  try simp only [List.nil_append, List.cons_append, List.append_eq, Int.toNat_natCast] at h10
  have S10 := Lib.hid h10; clear h10
  go_wp2_with fail
  refine (mul_st (by omega) (by omega) (S10.out.blk mem2) MD.out MD.out BD.out BD.out (Nat.le_refl _) (Nat.le_refl _) hn3 Srcs.self).mono ?_
  rintro e w11 ⟨rfl, hh⟩
  have h11 := S10.out.callN (N1 := [_, _]) hh; clear hh S10
  try simp only [List.nil_append, List.cons_append, List.append_eq, Int.toNat_natCast] at h11
  have S11 := Lib.hid h11; clear h11
  go_wp2_with fail
  refine (G8.mul_any _ _ _ (by omega) (by omega) (by omega) (by omega)).mono ?_
  rintro e _ ⟨rfl, rfl⟩
  go_wp2_with fail
  refine (mul_st (by omega) (by omega) (S11.out.blk mem1) MX.out HL.out H8.out BX.out (Nat.le_refl _) hcp hn3 (Srcs.ext S11.out mem1 HR.out)).mono ?_
  rintro e w12 ⟨rfl, hh⟩
  have h12 := S11.out.callN (N1 := [_]) hh; clear hh S11
  try simp only [List.nil_append, List.cons_append, List.append_eq, Int.toNat_natCast] at h12
  rw [E2.out] at h12
  have S12 := Lib.hid h12; clear h12
  go_wp2_with fail
  refine (same_st MDC.out hn3 (S12.out.rd mem2) (S12.out.rd mem1)).mono ?_
  rintro e w13 ⟨rfl, hh⟩
  have h13 := S12.out.call hh; clear hh S12
  try simp only [List.nil_append, List.cons_append, List.append_eq, Int.toNat_natCast] at h13
  have S13 := Lib.hid h13; clear h13
  have H8' := H8
  by_cases h0 : c = 0
  · have H0 := Lib.hid h0
    have g0 : ((c : Int) == 0) = true := beq_iff_eq.2 (by omega)
    clear h0
    go_wp2_with fail
    refine (inv_z' H0.out _).mono ?_
    rintro e _ ⟨rfl, rfl⟩
    go_wp2_with fail
    go_ret
    exact ⟨rfl, S13.out.below⟩
  · have HB := Lib.hid (map_back hc h0 H8.out)
    have H0 := Lib.hid h0
    have hp := pw_lt hc 254
    clear h0
    go_wp2_with fail
    refine (inv_nz c _ hc H0.out).mono ?_
    rintro e _ ⟨rfl, rfl⟩
    go_wp2_with fail
    refine (mul_st (by omega) (by omega) (S13.out.blk mem0) (zs_len n) HL.out H8.out (zs_b8 n) (Nat.le_refl _) hcp hn3 (Srcs.ext S13.out mem0 HR.out)).mono ?_
    rintro e w14 ⟨rfl, hh⟩
    have h14 := S13.out.callN (N1 := []) hh; clear hh S13
    try simp only [List.nil_append, List.cons_append, List.append_eq, Int.toNat_natCast] at h14
    have S14 := Lib.hid h14; clear h14
    go_wp2_with fail
    refine (mul_st (by omega) (by omega) (S14.out.blk mem0) MC.out MC.out BC.out BC.out (Nat.le_refl _) (Nat.le_refl _) hn3 Srcs.self).mono ?_
    rintro e w15 ⟨rfl, hh⟩
    have h15 := S14.out.callN (N1 := []) hh; clear hh S14
    try simp only [List.nil_append, List.cons_append, List.append_eq, Int.toNat_natCast] at h15
    rw [HB.out] at h15
    have S15 := Lib.hid h15; clear h15
    go_wp2_with fail
    refine (same_st HL.out hn3 (S15.out.rd mem0) (S15.out.ext HR.out)).mono ?_
    rintro e w16 ⟨rfl, hh⟩
    have h16 := S15.out.call hh; clear hh S15
    try simp only [List.nil_append, List.cons_append, List.append_eq, Int.toNat_natCast] at h16
    have S16 := Lib.hid h16; clear h16
    go_wp2_with fail
    go_ret
    exact ⟨rfl, S16.out.below⟩

end Go.Proofs.Ytcjcolmhhbnmgaa.Sl
