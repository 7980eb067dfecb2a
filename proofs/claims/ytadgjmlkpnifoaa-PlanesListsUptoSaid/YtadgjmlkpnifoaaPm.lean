/- Layer 8 (planes): Mul and MulAdd. -/
import Derived.Test.YtadgjmlkpnifoaaPq
import Derived.Test.YtadgjmlkpnifoaaSc
namespace Go.Proofs.Ytadgjmlkpnifoaa.Pq
set_option linter.unusedSimpArgs false
set_option linter.unusedVariables false
open Go Go.RowKit Go.Proofs.Ytadgjmlkpnifoaa Go.Proofs.Ytadgjmlkpnifoaa.Mm Go.Proofs.Ytadgjmlkpnifoaa.Gh Go.Proofs.Ytadgjmlkpnifoaa.Wr Go.Proofs.Ytadgjmlkpnifoaa.St

/-- The word at place t of a shard. -/
def wd (l : List Nat) (t : Nat) : Nat := l.getD (2 * t) 0 + 256 * l.getD (2 * t + 1) 0
/-- A word's bytes. -/
def half (p i : Nat) : Nat := if i % 2 = 0 then p % 256 else p / 256
/-- The shard c times l. -/
def pm (c : Nat) (l : List Nat) : List Nat := (List.range l.length).map fun i => half (gm c (wd l (i / 2))) i
theorem pm_length (c : Nat) (l : List Nat) : (pm c l).length = l.length := by simp [pm]
theorem pm_get {c i : Nat} {l : List Nat} (h : i < l.length) : (pm c l).getD i 0 = half (gm c (wd l (i / 2))) i := by simp [pm, h]
theorem half_lt {p i : Nat} (h : p < 65536) : half p i < 256 := by unfold half; split <;> omega
theorem get256 {l : List Nat} (h : B8 l) (i : Nat) : l.getD i 0 < 256 := by
  by_cases hi : i < l.length
  · exact h.get hi
  · rw [List.getD_eq_getElem?_getD, List.getElem?_eq_none (by omega)]; decide
theorem wd_lt {l : List Nat} (h : B8 l) (t : Nat) : wd l t < 65536 := by
  have h1 := get256 h (2 * t); have h2 := get256 h (2 * t + 1)
  unfold wd; omega
theorem pm_b8 {c : Nat} (hc : c < 65536) (l : List Nat) : B8 (pm c l) := by
  intro x hx
  obtain ⟨i, _, rfl⟩ := List.mem_map.1 hx
  exact half_lt (gm_lt _ hc)

theorem times_any (b c : Nat) (x : Int) (w : World) (hq : QAt w b c) (hc : c < 65536) (hx0 : 0 ≤ x) (hx : x < 65536) :
    Calls Try.prog 35 #[.pointer (some ⟨b, 0, none⟩), .int .u16 x] w fun e w' => e = .returned (.int .u16 ((gm c x.toNat : Nat) : Int)) ∧ ∃ n, w' = w.drewN n := by
  obtain ⟨x, rfl⟩ := Int.eq_ofNat_of_zero_le hx0
  exact times_calls b c x w hq hc (by omega)

theorem refuses_nil (v1 v2 : Value) (w : World) : Calls Try.prog 33 #[.pointer none, v1, v2] w fun e w' => e = .returned (.int .i64 1) ∧ w = w' := by
  go_enter Try.func33, Try.ntmps33
  go_wp2
  go_ret
  exact ⟨rfl, rfl⟩

theorem refuses_lens (p : Addr) (A1 A2 : Option Addr) (n m c1 c2 : Nat) (w : World) (h : n ≠ m) : Calls Try.prog 33 #[.pointer (some p), .slice A1 n c1, .slice A2 m c2] w fun e w' => e = .returned (.int .i64 6) ∧ w = w' := by
  have h1 : (n == m) = false := by simpa using h
  have h2 : (((n : Nat) : Int) != ((m : Nat) : Int)) = true := by rw [bne_iff_ne]; omega
  have h3 : (n != m) = true := by rw [bne_iff_ne]; exact h
  clear h
  go_enter Try.func33, Try.ntmps33
  go_wp2
  go_ret
  exact ⟨rfl, rfl⟩

theorem refuses_odd (p : Addr) (A1 A2 : Option Addr) (n c1 c2 : Nat) (w : World) (h : n % 2 = 1) : Calls Try.prog 33 #[.pointer (some p), .slice A1 n c1, .slice A2 n c2] w fun e w' => e = .returned (.int .i64 8) ∧ w = w' := by
  have h1 : (((n : Nat) : Int) % 2 != 0) = true := by rw [bne_iff_ne]; omega
  have h2 : (((n : Nat) : Int).tmod 2 != 0) = true := by rw [bne_iff_ne, Int.tmod_eq_emod_of_nonneg (by omega)]; omega
  clear h
  go_enter Try.func33, Try.ntmps33
  go_wp2
  go_ret
  exact ⟨rfl, rfl⟩

theorem refuses_ok (p : Addr) (A1 A2 : Option Addr) (n c1 c2 : Nat) (w : World) (h : n % 2 = 0) : Calls Try.prog 33 #[.pointer (some p), .slice A1 n c1, .slice A2 n c2] w fun e w' => e = .returned (.int .i64 0) ∧ w = w' := by
  have h1 : (((n : Nat) : Int) % 2 != 0) = false := by rw [bne_eq_false_iff_eq]; omega
  have h2 : (((n : Nat) : Int).tmod 2 != 0) = false := by rw [bne_eq_false_iff_eq, Int.tmod_eq_emod_of_nonneg (by omega)]; omega
  clear h
  go_enter Try.func33, Try.ntmps33
  go_wp2
  go_ret
  exact ⟨rfl, rfl⟩

theorem mul_nil (c : Int) (v1 v2 : Value) (w : World) : Calls Try.prog 13 #[.pointer none, .int .u16 c, v1, v2] w fun e w' => e = .returned (.int .i64 1) ∧ w = w' := by
  go_enter Try.func13, Try.ntmps13
  go_wp2_with fail
  refine (refuses_nil _ _ _).mono ?_
  rintro e _ ⟨rfl, rfl⟩
  go_wp2_with fail
  go_ret
  exact ⟨rfl, rfl⟩

theorem add_nil (c : Int) (v1 v2 : Value) (w : World) : Calls Try.prog 14 #[.pointer none, .int .u16 c, v1, v2] w fun e w' => e = .returned (.int .i64 1) ∧ w = w' := by
  go_enter Try.func14, Try.ntmps14
  go_wp2_with fail
  refine (refuses_nil _ _ _).mono ?_
  rintro e _ ⟨rfl, rfl⟩
  go_wp2_with fail
  go_ret
  exact ⟨rfl, rfl⟩

theorem mul_lens (p : Addr) (c : Int) (A1 A2 : Option Addr) (n m c1 c2 : Nat) (w : World) (h : n ≠ m) : Calls Try.prog 13 #[.pointer (some p), .int .u16 c, .slice A1 n c1, .slice A2 m c2] w fun e w' => e = .returned (.int .i64 6) ∧ w = w' := by
  have H := Lib.hid h
  clear h
  go_enter Try.func13, Try.ntmps13
  go_wp2_with fail
  refine (refuses_lens _ _ _ _ _ _ _ _ H.out).mono ?_
  rintro e _ ⟨rfl, rfl⟩
  go_wp2_with fail
  go_ret
  exact ⟨rfl, rfl⟩

theorem add_lens (p : Addr) (c : Int) (A1 A2 : Option Addr) (n m c1 c2 : Nat) (w : World) (h : n ≠ m) : Calls Try.prog 14 #[.pointer (some p), .int .u16 c, .slice A1 n c1, .slice A2 m c2] w fun e w' => e = .returned (.int .i64 6) ∧ w = w' := by
  have H := Lib.hid h
  clear h
  go_enter Try.func14, Try.ntmps14
  go_wp2_with fail
  refine (refuses_lens _ _ _ _ _ _ _ _ H.out).mono ?_
  rintro e _ ⟨rfl, rfl⟩
  go_wp2_with fail
  go_ret
  exact ⟨rfl, rfl⟩

theorem mul_odd (p : Addr) (c : Int) (A1 A2 : Option Addr) (n c1 c2 : Nat) (w : World) (h : n % 2 = 1) : Calls Try.prog 13 #[.pointer (some p), .int .u16 c, .slice A1 n c1, .slice A2 n c2] w fun e w' => e = .returned (.int .i64 8) ∧ w = w' := by
  have H := Lib.hid h
  clear h
  go_enter Try.func13, Try.ntmps13
  go_wp2_with fail
  refine (refuses_odd _ _ _ _ _ _ _ H.out).mono ?_
  rintro e _ ⟨rfl, rfl⟩
  go_wp2_with fail
  go_ret
  exact ⟨rfl, rfl⟩

theorem add_odd (p : Addr) (c : Int) (A1 A2 : Option Addr) (n c1 c2 : Nat) (w : World) (h : n % 2 = 1) : Calls Try.prog 14 #[.pointer (some p), .int .u16 c, .slice A1 n c1, .slice A2 n c2] w fun e w' => e = .returned (.int .i64 8) ∧ w = w' := by
  have H := Lib.hid h
  clear h
  go_enter Try.func14, Try.ntmps14
  go_wp2_with fail
  refine (refuses_odd _ _ _ _ _ _ _ H.out).mono ?_
  rintro e _ ⟨rfl, rfl⟩
  go_wp2_with fail
  go_ret
  exact ⟨rfl, rfl⟩

set_option maxRecDepth 100000 in
set_option maxHeartbeats 4000000 in
theorem mul_at {p : Addr} {c bd od n cd : Nat} {A : Option Addr} {cs : Nat} {D l : List Nat} {w : World} (hc : c < 65536) (hd : Bytes w bd D) (ho : od + n ≤ D.length) (hl : l.length = n) (h2 : n % 2 = 0) (h8 : B8 l) (hnm : n ≤ 281474976710656)
    (hs : Srcs w bd od A D l) :
    Calls Try.prog 13 #[.pointer (some p), .int .u16 (c : Int), .slice (some ⟨bd, od, none⟩) n cd, .slice A n cs] w fun e w' => e = .returned (.int .i64 0) ∧ St w w' [bt bd (Wr.wr D od (pm c l))] [] := by
  have HL := Lib.hid hl; have HO := Lib.hid ho; have HS := Lib.hid hs; have H8 := Lib.hid h8; have H2 := Lib.hid h2
  have S0 := Lib.hid (St.start1 hd)
  clear hd ho hl h8 hs h2
  go_enter Try.func13, Try.ntmps13
  go_wp2_with fail
  refine (refuses_ok _ _ _ _ _ _ _ H2.out).mono ?_
  rintro e _ ⟨rfl, rfl⟩
  go_wp2_with fail
  refine (of_calls c _ hc).mono ?_
  rintro e w1 ⟨q, rfl, hh⟩
  have h1 := S0.out.call hh; clear hh S0
  try simp only [List.nil_append, List.cons_append, List.append_eq, Int.toNat_natCast] at h1
  have S1 := Lib.hid h1; clear h1
  go_wp2_with fail
  have H1 := S1
  clear S1
  go_loopw [11] (fun vi wr => ∃ t : Nat, 2 * t ≤ n ∧ vi = .int .i64 (2 * (t : Int)) ∧ St w wr [bt bd (Wr.wr D od ((pm c l).take (2 * t)))] [⟨q, 66, row .u16 (qL c)⟩]) (fun vi _ => n + 2 - (intOf vi).toNat)
  case atStart => exact ⟨0, by omega, rfl, H1.out⟩
  case round =>
    clear H1
    obtain ⟨t, ht, rfl, hs⟩ := hrel
    have S2 := Lib.hid hs; clear hs
    by_cases hlt : 2 * t < n
    · have hb2 : 2 * t + 1 < n := by have := H2.out; omega
      obtain ⟨bs, os, eA, hsrc⟩ := HS.out (by rw [HL.out]; omega)
      subst eA
      have m1 := hsrc.cell S2.out.but (S2.out.blkW mem0) (by rw [HL.out]; exact HO.out) (pm_length c l) (Nat.le_refl _) (by rw [HL.out]; exact hlt)
      have m2 := hsrc.cell (k := 2 * t + 1) S2.out.but (S2.out.blkW mem0) (by rw [HL.out]; exact HO.out) (pm_length c l) (by omega) (by rw [HL.out]; exact hb2)
      have x1 := H8.out.get (i := 2 * t) (by rw [HL.out]; omega)
      have x2 := H8.out.get (i := 2 * t + 1) (by rw [HL.out]; omega)
      have hvw : Hid (l.getD (2 * t) 0 + 256 * l.getD (2 * t + 1) 0 = wd l t) := Lib.hid rfl
      have hw := wd_lt H8.out t
      generalize l.getD (2 * t) 0 = y1 at *
      generalize l.getD (2 * t + 1) 0 = y2 at *
      clear hsrc
      have i1 : 2 * (t : Int) + 1 < (n : Int) := by omega
      have i2 : 2 * (t : Int) < (n : Int) := by omega
      have i3 : IntKind.i64.wrap (2 * (t : Int) + 1) = 2 * (t : Int) + 1 := IntWalk.i64_in _ (by omega)
      have i4 : (0 : Int) ≤ 2 * (t : Int) := by omega
      have i5 : (0 : Int) ≤ 2 * (t : Int) + 1 := by omega
      have i6 : (2 * (t : Int)).toNat = 2 * t := by omega
      have i7 : (2 * (t : Int) + 1).toNat = 2 * t + 1 := by omega
      have WC : Hid (∀ W : World, Calls Try.prog 36 #[.int .u8 (y1 : Int), .int .u8 (y2 : Int)] W fun e w' => e = .returned (.int .u16 ((wd l t : Nat) : Int)) ∧ W = w') := Lib.hid (fun W => by
        have := word_calls (y1 : Int) (y2 : Int) W (by omega) (by omega) (by omega) (by omega)
        rw [show (y1 : Int) + 256 * (y2 : Int) = ((wd l t : Nat) : Int) from by rw [← hvw.out]; simp] at this
        exact this)
      go_wp2_with fail
      go_quiet ((first | (go_at_call 36; exact Qt.same (WC.out _)) | (go_at_call 35; exact Calls.quiet_of (times_calls q c _ _ (S2.out.drewN.blk mem0) hc hw))))
      have hP := gm_lt (wd l t) hc
      have HV1 : Hid (gm c (wd l t) % 256 = (pm c l).getD (2 * t) 0) := Lib.hid (by rw [pm_get (by rw [HL.out]; omega), show 2 * t / 2 = t by omega]; unfold half; rw [if_pos (by omega)])
      have HV2 : Hid (gm c (wd l t) / 256 = (pm c l).getD (2 * t + 1) 0) := Lib.hid (by rw [pm_get (by rw [HL.out]; omega), show (2 * t + 1) / 2 = t by omega]; unfold half; rw [if_neg (by omega)])
      generalize gm c (wd l t) = P at *
      clear m1 m2 WC
      have S3 := Lib.hid (S2.out.drewN (n := nq)); clear S2
      have hin := HO.out
      have j1 : 2 * t < n := hlt
      have f1 := (S3.out.blkW mem0).free (i := od + 2 * t)
      have f2 := (S3.out.blkW mem0).free (i := od + (2 * t + 1))
      have m1 := (S3.out.blkW mem0).cellRow (i := od + 2 * t) (by rw [wr_length]; omega)
      have m2 := (S3.out.blkW mem0).cellRow (i := od + (2 * t + 1)) (by rw [wr_length]; omega)
      generalize (Wr.wr D od ((pm c l).take (2 * t))).getD (od + 2 * t) 0 = z1 at *
      generalize (Wr.wr D od ((pm c l).take (2 * t))).getD (od + (2 * t + 1)) 0 = z2 at *
      go_wp2_with fail
      have S4 := Lib.hid ((S3.out.setRowW (W1 := []) (od + 2 * t) (P % 256)).setRowW (W1 := []) (od + (2 * t + 1)) (P / 256))
      rw [HV1.out, HV2.out, List.nil_append, ← wr_take_succ (by rw [pm_length, HL.out]; omega), ← wr_take_succ (by rw [pm_length, HL.out]; omega)] at S4
      refine ⟨⟨t + 1, by omega, by simp; omega, ?_⟩, ?_⟩
      · rw [show (P : Int) % 256 = (((pm c l).getD (2 * t) 0 : Nat) : Int) from by rw [← HV1.out]; simp, show (P : Int) / 256 = (((pm c l).getD (2 * t + 1) 0 : Nat) : Int) from by rw [← HV2.out]; simp]
        exact S4.out
      · simp [intOf]; omega
    · have h2 := H2.out
      obtain rfl : n = 2 * t := by omega
      rw [List.take_of_length_le (by rw [pm_length, HL.out]; exact Nat.le_refl _)] at S2
      go_wp2_with fail
      go_ret
      exact ⟨rfl, S2.out.nil⟩

/-- A list added to a piece of another. -/
def xl (od : Nat) (D m : List Nat) : List Nat := (List.range m.length).map fun i => D.getD (od + i) 0 ^^^ m.getD i 0
theorem xl_length (od : Nat) (D m : List Nat) : (xl od D m).length = m.length := by simp [xl]
theorem xl_get {od i : Nat} {D m : List Nat} (h : i < m.length) : (xl od D m).getD i 0 = D.getD (od + i) 0 ^^^ m.getD i 0 := by simp [xl, h]
theorem xl_len {od : Nat} {D : List Nat} (c : Nat) (l : List Nat) : (xl od D (pm c l)).length = l.length := by rw [xl_length, pm_length]

set_option maxRecDepth 100000 in
set_option maxHeartbeats 4000000 in
theorem add_at {p : Addr} {c bd od n cd : Nat} {A : Option Addr} {cs : Nat} {D l : List Nat} {w : World} (hc : c < 65536) (hd : Bytes w bd D) (ho : od + n ≤ D.length) (hl : l.length = n) (h2 : n % 2 = 0) (h8 : B8 l) (hD8 : B8 D) (hnm : n ≤ 281474976710656)
    (hs : Srcs w bd od A D l) :
    Calls Try.prog 14 #[.pointer (some p), .int .u16 (c : Int), .slice (some ⟨bd, od, none⟩) n cd, .slice A n cs] w fun e w' => e = .returned (.int .i64 0) ∧ St w w' [bt bd (Wr.wr D od (xl od D (pm c l)))] [] := by
  have HL := Lib.hid hl; have HO := Lib.hid ho; have HS := Lib.hid hs; have H8 := Lib.hid h8; have H2 := Lib.hid h2
  have S0 := Lib.hid (St.start1 hd)
  clear hd ho hl h8 hs h2
  go_enter Try.func14, Try.ntmps14
  go_wp2_with fail
  refine (refuses_ok _ _ _ _ _ _ _ H2.out).mono ?_
  rintro e _ ⟨rfl, rfl⟩
  go_wp2_with fail
  refine (of_calls c _ hc).mono ?_
  rintro e w1 ⟨q, rfl, hh⟩
  have h1 := S0.out.call hh; clear hh S0
  try simp only [List.nil_append, List.cons_append, List.append_eq, Int.toNat_natCast] at h1
  have S1 := Lib.hid h1; clear h1
  go_wp2_with fail
  have H1 := S1
  clear S1
  go_loopw [11] (fun vi wr => ∃ t : Nat, 2 * t ≤ n ∧ vi = .int .i64 (2 * (t : Int)) ∧ St w wr [bt bd (Wr.wr D od ((xl od D (pm c l)).take (2 * t)))] [⟨q, 66, row .u16 (qL c)⟩]) (fun vi _ => n + 2 - (intOf vi).toNat)
  case atStart => exact ⟨0, by omega, rfl, H1.out⟩
  case round =>
    clear H1
    obtain ⟨t, ht, rfl, hs⟩ := hrel
    have S2 := Lib.hid hs; clear hs
    by_cases hlt : 2 * t < n
    · have hb2 : 2 * t + 1 < n := by have := H2.out; omega
      obtain ⟨bs, os, eA, hsrc⟩ := HS.out (by rw [HL.out]; omega)
      subst eA
      have m1 := hsrc.cell S2.out.but (S2.out.blkW mem0) (by rw [HL.out]; exact HO.out) (xl_len c l) (Nat.le_refl _) (by rw [HL.out]; exact hlt)
      have m2 := hsrc.cell (k := 2 * t + 1) S2.out.but (S2.out.blkW mem0) (by rw [HL.out]; exact HO.out) (xl_len c l) (by omega) (by rw [HL.out]; exact hb2)
      have x1 := H8.out.get (i := 2 * t) (by rw [HL.out]; omega)
      have x2 := H8.out.get (i := 2 * t + 1) (by rw [HL.out]; omega)
      have hvw : Hid (l.getD (2 * t) 0 + 256 * l.getD (2 * t + 1) 0 = wd l t) := Lib.hid rfl
      have hw := wd_lt H8.out t
      generalize l.getD (2 * t) 0 = y1 at *
      generalize l.getD (2 * t + 1) 0 = y2 at *
      clear hsrc
      have i1 : 2 * (t : Int) + 1 < (n : Int) := by omega
      have i2 : 2 * (t : Int) < (n : Int) := by omega
      have i3 : IntKind.i64.wrap (2 * (t : Int) + 1) = 2 * (t : Int) + 1 := IntWalk.i64_in _ (by omega)
      have i4 : (0 : Int) ≤ 2 * (t : Int) := by omega
      have i5 : (0 : Int) ≤ 2 * (t : Int) + 1 := by omega
      have i6 : (2 * (t : Int)).toNat = 2 * t := by omega
      have i7 : (2 * (t : Int) + 1).toNat = 2 * t + 1 := by omega
      have WC : Hid (∀ W : World, Calls Try.prog 36 #[.int .u8 (y1 : Int), .int .u8 (y2 : Int)] W fun e w' => e = .returned (.int .u16 ((wd l t : Nat) : Int)) ∧ W = w') := Lib.hid (fun W => by
        have := word_calls (y1 : Int) (y2 : Int) W (by omega) (by omega) (by omega) (by omega)
        rw [show (y1 : Int) + 256 * (y2 : Int) = ((wd l t : Nat) : Int) from by rw [← hvw.out]; simp] at this
        exact this)
      go_wp2_with fail
      go_quiet ((first | (go_at_call 36; exact Qt.same (WC.out _)) | (go_at_call 35; exact Calls.quiet_of (times_calls q c _ _ (S2.out.drewN.blk mem0) hc hw))))
      have hP := gm_lt (wd l t) hc
      have hV1 : gm c (wd l t) % 256 = (pm c l).getD (2 * t) 0 := by rw [pm_get (by rw [HL.out]; omega), show 2 * t / 2 = t by omega]; unfold half; rw [if_pos (by omega)]
      have hV2 : gm c (wd l t) / 256 = (pm c l).getD (2 * t + 1) 0 := by rw [pm_get (by rw [HL.out]; omega), show (2 * t + 1) / 2 = t by omega]; unfold half; rw [if_neg (by omega)]
      have hin := HO.out
      have HV1 : Hid (D.getD (od + 2 * t) 0 ^^^ (gm c (wd l t) % 256) = (xl od D (pm c l)).getD (2 * t) 0) := Lib.hid (by rw [xl_get (by rw [pm_length, HL.out]; omega), hV1])
      have HV2 : Hid (D.getD (od + (2 * t + 1)) 0 ^^^ (gm c (wd l t) / 256) = (xl od D (pm c l)).getD (2 * t + 1) 0) := Lib.hid (by rw [xl_get (by rw [pm_length, HL.out]; omega), hV2])
      clear hV1 hV2
      have z81 := hD8.get (i := od + 2 * t) (by omega)
      have z82 := hD8.get (i := od + (2 * t + 1)) (by omega)
      generalize gm c (wd l t) = P at *
      clear m1 m2 WC
      have S3 := Lib.hid (S2.out.drewN (n := nq)); clear S2
      have j1 : 2 * t < n := hlt
      have f1 := (S3.out.blkW mem0).free (i := od + 2 * t)
      have f2 := (S3.out.blkW mem0).free (i := od + (2 * t + 1))
      have m1 := (S3.out.blkW mem0).cellRow (i := od + 2 * t) (by rw [wr_length]; omega)
      have m2 := (S3.out.blkW mem0).cellRow (i := od + (2 * t + 1)) (by rw [wr_length]; omega)
      rw [wr_above (by rw [List.length_take, xl_len, HL.out]; omega) (by rw [List.length_take, xl_len, HL.out]; omega)] at m1 m2
      generalize D.getD (od + 2 * t) 0 = z1 at *
      generalize D.getD (od + (2 * t + 1)) 0 = z2 at *
      have e1 : Go.bits .xor .u8 (z1 : Int) ((P : Int) % 256) = ((z1 ^^^ (P % 256) : Nat) : Int) := by
        have := Bt.xor8 (a := z1) (b := P % 256) z81 (by omega)
        simpa using this
      have e2 : Go.bits .xor .u8 (z2 : Int) ((P : Int) / 256) = ((z2 ^^^ (P / 256) : Nat) : Int) := by
        have := Bt.xor8 (a := z2) (b := P / 256) z82 (by omega)
        simpa using this
      have X1 := Lib.hid e1; have X2 := Lib.hid e2; clear e1 e2
      go_wp2_with fail
      rw [X1.out, X2.out]
      have S4 := Lib.hid ((S3.out.setRowW (W1 := []) (od + 2 * t) (z1 ^^^ (P % 256))).setRowW (W1 := []) (od + (2 * t + 1)) (z2 ^^^ (P / 256)))
      rw [HV1.out, HV2.out, List.nil_append, ← wr_take_succ (by rw [xl_len, HL.out]; omega), ← wr_take_succ (by rw [xl_len, HL.out]; omega)] at S4
      refine ⟨⟨t + 1, by omega, by simp; omega, ?_⟩, ?_⟩
      · rw [HV1.out, HV2.out]
        exact S4.out
      · simp [intOf]; omega
    · have h2 := H2.out
      obtain rfl : n = 2 * t := by omega
      rw [List.take_of_length_le (by rw [xl_len, HL.out]; exact Nat.le_refl _)] at S2
      go_wp2_with fail
      go_ret
      exact ⟨rfl, S2.out.nil⟩

end Go.Proofs.Ytadgjmlkpnifoaa.Pq
