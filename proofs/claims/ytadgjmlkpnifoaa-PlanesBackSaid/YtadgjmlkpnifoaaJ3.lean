/- Layer 8: the law PlanesBack. -/
import Derived.Test.YtadgjmlkpnifoaaJ5
import Derived.Test.YtadgjmlkpnifoaaIv
import Derived.Deep.RegionHeld3
namespace Go.Proofs.Ytadgjmlkpnifoaa.Pq
set_option linter.unusedSimpArgs false
set_option linter.unusedVariables false
open Go Go.RowKit Go.Proofs.Ytadgjmlkpnifoaa Go.Proofs.Ytadgjmlkpnifoaa.Mm Go.Proofs.Ytadgjmlkpnifoaa.Gh Go.Proofs.Ytadgjmlkpnifoaa.Wr Go.Proofs.Ytadgjmlkpnifoaa.St

theorem b8_set {T : List Nat} (h : B8 T) {v : Nat} (hv : v < 256) {i : Nat} : B8 (T.set i v) := fun _ hx => (List.mem_or_eq_of_mem_set hx).elim (h _) (fun e => e ▸ hv)
/-- Two lists of bytes that are the same but within a piece. -/
def Lap (D D' : List Nat) (od n : Nat) : Prop := D'.length = D.length ∧ B8 D' ∧ ∀ j, (j < od ∨ od + n ≤ j) → D'.getD j 0 = D.getD j 0
theorem Lap.set {D D' : List Nat} {od n i v : Nat} (h : Lap D D' od n) (hi : i < n) (hv : v < 256) : Lap D (D'.set (od + i) v) od n :=
  ⟨by rw [List.length_set]; exact h.1, b8_set h.2.1 hv, fun j hj => by
    rw [← h.2.2 j hj, List.getD_eq_getElem?_getD, List.getElem?_set, if_neg (by omega), ← List.getD_eq_getElem?_getD]⟩
/-- What a call leaves that writes over a piece whatever it finds. -/
def LapR (w : World) (bd : Nat) (D : List Nat) (od n : Nat) (e : Ending) (w' : World) : Prop := ∃ D', e = .returned (.int .i64 0) ∧ Lap D D' od n ∧ St w w' [bt bd D'] []

set_option maxRecDepth 100000 in
set_option maxHeartbeats 4000000 in
theorem mul_lap {p : Addr} {c bd od os n cd cs : Nat} {D : List Nat} {w : World} (hc : c < 65536) (hd : Bytes w bd D) (hn : od + n ≤ D.length) (hos : os + n ≤ D.length) (h2 : n % 2 = 0) (hD8 : B8 D) (hnm : n ≤ 281474976710656) :
    Calls Try.prog 13 #[.pointer (some p), .int .u16 (c : Int), .slice (some ⟨bd, od, none⟩) n cd, .slice (some ⟨bd, os, none⟩) n cs] w (LapR w bd D od n) := by
  have HD8 := Lib.hid hD8; have HN := Lib.hid hn; have HOS := Lib.hid hos; have H2 := Lib.hid h2
  have S0 := Lib.hid (St.start1 hd)
  have HL0 : Hid (Lap D D od n) := Lib.hid ⟨rfl, hD8, fun _ _ => rfl⟩
  clear hd hn hos hD8 h2
  go_enter Try.func13, Try.ntmps13
  go_wp2_with fail
  refine (refuses_ok _ _ _ _ _ _ _ H2.out).mono ?_
  rintro e _ ⟨rfl, rfl⟩
  go_wp2_with fail
  refine (of_calls c _ hc).mono ?_
  rintro e w1 ⟨q, rfl, hh⟩
  have h1 := S0.out.call hh; clear hh S0
  try simp only [List.nil_append, List.cons_append, List.append_eq, Int.toNat_natCast] at h1
  have S1 := Lib.hid h1; clear h1
  go_wp2_with fail
  have H1 := S1
  clear S1
  go_loopw [11] (fun vi wr => ∃ (t : Nat) (D' : List Nat), 2 * t ≤ n ∧ vi = .int .i64 (2 * (t : Int)) ∧ Lap D D' od n ∧ St w wr [bt bd D'] [⟨q, 66, row .u16 (qL c)⟩]) (fun vi _ => n + 2 - (intOf vi).toNat)
  case atStart => exact ⟨0, D, by omega, rfl, HL0.out, H1.out⟩
  case round =>
    clear H1 HL0
    obtain ⟨t, D', ht, rfl, hl, hs⟩ := hrel
    have S2 := Lib.hid hs; have HL := Lib.hid hl; clear hs hl
    by_cases hlt : 2 * t < n
    · have hb2 : 2 * t + 1 < n := by have := H2.out; omega
      have hin := HN.out
      have hio := HOS.out
      have hlen := HL.out.1
      have m1 := (S2.out.blkW mem0).cellRow (i := os + 2 * t) (by omega)
      have m2 := (S2.out.blkW mem0).cellRow (i := os + (2 * t + 1)) (by omega)
      have x1 := HL.out.2.1.get (i := os + 2 * t) (by omega)
      have x2 := HL.out.2.1.get (i := os + (2 * t + 1)) (by omega)
      have z81 := HL.out.2.1.get (i := od + 2 * t) (by omega)
      have z82 := HL.out.2.1.get (i := od + (2 * t + 1)) (by omega)
      have n1 := (S2.out.blkW mem0).cellRow (i := od + 2 * t) (by omega)
      have n2 := (S2.out.blkW mem0).cellRow (i := od + (2 * t + 1)) (by omega)
      have f1 := (S2.out.blkW mem0).free (i := od + 2 * t)
      have f2 := (S2.out.blkW mem0).free (i := od + (2 * t + 1))
      have N1 := Lib.hid n1; have N2 := Lib.hid n2; have FF1 := Lib.hid f1; have FF2 := Lib.hid f2
      clear n1 n2 f1 f2
      generalize D'.getD (os + 2 * t) 0 = y1 at *
      generalize D'.getD (os + (2 * t + 1)) 0 = y2 at *
      generalize D'.getD (od + 2 * t) 0 = z1 at *
      generalize D'.getD (od + (2 * t + 1)) 0 = z2 at *
      clear hlen hin hio
      have i1 : 2 * (t : Int) + 1 < (n : Int) := by omega
      have i2 : 2 * (t : Int) < (n : Int) := by omega
      have i3 : IntKind.i64.wrap (2 * (t : Int) + 1) = 2 * (t : Int) + 1 := IntWalk.i64_in _ (by omega)
      have i4 : (0 : Int) ≤ 2 * (t : Int) := by omega
      have i5 : (0 : Int) ≤ 2 * (t : Int) + 1 := by omega
      have i6 : (2 * (t : Int)).toNat = 2 * t := by omega
      have i7 : (2 * (t : Int) + 1).toNat = 2 * t + 1 := by omega
      have hw : y1 + 256 * y2 < 65536 := by omega
      have WC : Hid (∀ W : World, Calls Try.prog 36 #[.int .u8 (y1 : Int), .int .u8 (y2 : Int)] W fun e w' => e = .returned (.int .u16 ((y1 + 256 * y2 : Nat) : Int)) ∧ W = w') := Lib.hid (fun W => by
        have := word_calls (y1 : Int) (y2 : Int) W (by omega) (by omega) (by omega) (by omega)
        rw [show (y1 : Int) + 256 * (y2 : Int) = ((y1 + 256 * y2 : Nat) : Int) from by simp] at this
        exact this)
      generalize y1 + 256 * y2 = Y at *
      go_wp2_with fail
      go_quiet ((first | (go_at_call 36; exact Qt.same (WC.out _)) | (go_at_call 35; exact Calls.quiet_of (times_calls q c _ _ (S2.out.drewN.blk mem0) hc hw))))
      have hP := gm_lt Y hc
      generalize gm c Y = P at *
      clear m1 m2 WC
      have S3 := Lib.hid (S2.out.drewN (n := nq)); clear S2
      have f1 : (wr.drewN nq).frozen? ⟨bd, od + 2 * t, none⟩ = false := FF1.out
      have f2 : (wr.drewN nq).frozen? ⟨bd, od + (2 * t + 1), none⟩ = false := FF2.out
      have m1 : (wr.drewN nq).cell? ⟨bd, od + 2 * t, none⟩ = some (.int .u8 (z1 : Int)) := N1.out
      have m2 : (wr.drewN nq).cell? ⟨bd, od + (2 * t + 1), none⟩ = some (.int .u8 (z2 : Int)) := N2.out
      go_wp2_with fail
      have S4 := Lib.hid ((S3.out.setRowW (W1 := []) (od + 2 * t) (P % 256)).setRowW (W1 := []) (od + (2 * t + 1)) (P / 256))
      refine ⟨⟨t + 1, (D'.set (od + 2 * t) (P % 256)).set (od + (2 * t + 1)) (P / 256), by omega, by simp; omega, (HL.out.set (by omega) (by omega)).set (by omega) (by omega), ?_⟩, ?_⟩
      · rw [show (P : Int) % 256 = ((P % 256 : Nat) : Int) from by simp, show (P : Int) / 256 = ((P / 256 : Nat) : Int) from by simp]
        exact S4.out
      · simp [intOf]; omega
    · have h2 := H2.out
      obtain rfl : n = 2 * t := by omega
      go_wp2_with fail
      go_ret
      exact ⟨D', rfl, HL.out, S2.out.nil⟩

set_option maxRecDepth 100000 in
set_option maxHeartbeats 4000000 in
theorem add_lap {p : Addr} {c bd od os n cd cs : Nat} {D : List Nat} {w : World} (hc : c < 65536) (hd : Bytes w bd D) (hn : od + n ≤ D.length) (hos : os + n ≤ D.length) (h2 : n % 2 = 0) (hD8 : B8 D) (hnm : n ≤ 281474976710656) :
    Calls Try.prog 14 #[.pointer (some p), .int .u16 (c : Int), .slice (some ⟨bd, od, none⟩) n cd, .slice (some ⟨bd, os, none⟩) n cs] w (LapR w bd D od n) := by
  have HD8 := Lib.hid hD8; have HN := Lib.hid hn; have HOS := Lib.hid hos; have H2 := Lib.hid h2
  have S0 := Lib.hid (St.start1 hd)
  have HL0 : Hid (Lap D D od n) := Lib.hid ⟨rfl, hD8, fun _ _ => rfl⟩
  clear hd hn hos hD8 h2
  go_enter Try.func14, Try.ntmps14
  go_wp2_with fail
  refine (refuses_ok _ _ _ _ _ _ _ H2.out).mono ?_
  rintro e _ ⟨rfl, rfl⟩
  go_wp2_with fail
  refine (of_calls c _ hc).mono ?_
  rintro e w1 ⟨q, rfl, hh⟩
  have h1 := S0.out.call hh; clear hh S0
  try simp only [List.nil_append, List.cons_append, List.append_eq, Int.toNat_natCast] at h1
  have S1 := Lib.hid h1; clear h1
  go_wp2_with fail
  have H1 := S1
  clear S1
  go_loopw [11] (fun vi wr => ∃ (t : Nat) (D' : List Nat), 2 * t ≤ n ∧ vi = .int .i64 (2 * (t : Int)) ∧ Lap D D' od n ∧ St w wr [bt bd D'] [⟨q, 66, row .u16 (qL c)⟩]) (fun vi _ => n + 2 - (intOf vi).toNat)
  case atStart => exact ⟨0, D, by omega, rfl, HL0.out, H1.out⟩
  case round =>
    clear H1 HL0
    obtain ⟨t, D', ht, rfl, hl, hs⟩ := hrel
    have S2 := Lib.hid hs; have HL := Lib.hid hl; clear hs hl
    by_cases hlt : 2 * t < n
    · have hb2 : 2 * t + 1 < n := by have := H2.out; omega
      have hin := HN.out
      have hio := HOS.out
      have hlen := HL.out.1
      have m1 := (S2.out.blkW mem0).cellRow (i := os + 2 * t) (by omega)
      have m2 := (S2.out.blkW mem0).cellRow (i := os + (2 * t + 1)) (by omega)
      have x1 := HL.out.2.1.get (i := os + 2 * t) (by omega)
      have x2 := HL.out.2.1.get (i := os + (2 * t + 1)) (by omega)
      have z81 := HL.out.2.1.get (i := od + 2 * t) (by omega)
      have z82 := HL.out.2.1.get (i := od + (2 * t + 1)) (by omega)
      have n1 := (S2.out.blkW mem0).cellRow (i := od + 2 * t) (by omega)
      have n2 := (S2.out.blkW mem0).cellRow (i := od + (2 * t + 1)) (by omega)
      have f1 := (S2.out.blkW mem0).free (i := od + 2 * t)
      have f2 := (S2.out.blkW mem0).free (i := od + (2 * t + 1))
      have N1 := Lib.hid n1; have N2 := Lib.hid n2; have FF1 := Lib.hid f1; have FF2 := Lib.hid f2
      clear n1 n2 f1 f2
      generalize D'.getD (os + 2 * t) 0 = y1 at *
      generalize D'.getD (os + (2 * t + 1)) 0 = y2 at *
      generalize D'.getD (od + 2 * t) 0 = z1 at *
      generalize D'.getD (od + (2 * t + 1)) 0 = z2 at *
      clear hlen hin hio
      have i1 : 2 * (t : Int) + 1 < (n : Int) := by omega
      have i2 : 2 * (t : Int) < (n : Int) := by omega
      have i3 : IntKind.i64.wrap (2 * (t : Int) + 1) = 2 * (t : Int) + 1 := IntWalk.i64_in _ (by omega)
      have i4 : (0 : Int) ≤ 2 * (t : Int) := by omega
      have i5 : (0 : Int) ≤ 2 * (t : Int) + 1 := by omega
      have i6 : (2 * (t : Int)).toNat = 2 * t := by omega
      have i7 : (2 * (t : Int) + 1).toNat = 2 * t + 1 := by omega
      have hw : y1 + 256 * y2 < 65536 := by omega
      have WC : Hid (∀ W : World, Calls Try.prog 36 #[.int .u8 (y1 : Int), .int .u8 (y2 : Int)] W fun e w' => e = .returned (.int .u16 ((y1 + 256 * y2 : Nat) : Int)) ∧ W = w') := Lib.hid (fun W => by
        have := word_calls (y1 : Int) (y2 : Int) W (by omega) (by omega) (by omega) (by omega)
        rw [show (y1 : Int) + 256 * (y2 : Int) = ((y1 + 256 * y2 : Nat) : Int) from by simp] at this
        exact this)
      generalize y1 + 256 * y2 = Y at *
      go_wp2_with fail
      go_quiet ((first | (go_at_call 36; exact Qt.same (WC.out _)) | (go_at_call 35; exact Calls.quiet_of (times_calls q c _ _ (S2.out.drewN.blk mem0) hc hw))))
      have hP := gm_lt Y hc
      generalize gm c Y = P at *
      clear m1 m2 WC
      have S3 := Lib.hid (S2.out.drewN (n := nq)); clear S2
      have f1 : (wr.drewN nq).frozen? ⟨bd, od + 2 * t, none⟩ = false := FF1.out
      have f2 : (wr.drewN nq).frozen? ⟨bd, od + (2 * t + 1), none⟩ = false := FF2.out
      have m1 : (wr.drewN nq).cell? ⟨bd, od + 2 * t, none⟩ = some (.int .u8 (z1 : Int)) := N1.out
      have m2 : (wr.drewN nq).cell? ⟨bd, od + (2 * t + 1), none⟩ = some (.int .u8 (z2 : Int)) := N2.out
      have e1 : Go.bits .xor .u8 (z1 : Int) ((P : Int) % 256) = ((z1 ^^^ (P % 256) : Nat) : Int) := by
        have := Bt.xor8 (a := z1) (b := P % 256) z81 (by omega)
        simpa using this
      have e2 : Go.bits .xor .u8 (z2 : Int) ((P : Int) / 256) = ((z2 ^^^ (P / 256) : Nat) : Int) := by
        have := Bt.xor8 (a := z2) (b := P / 256) z82 (by omega)
        simpa using this
      have X1 := Lib.hid e1; have X2 := Lib.hid e2; clear e1 e2
      go_wp2_with fail
      rw [X1.out, X2.out]
      have S4 := Lib.hid ((S3.out.setRowW (W1 := []) (od + 2 * t) (z1 ^^^ (P % 256))).setRowW (W1 := []) (od + (2 * t + 1)) (z2 ^^^ (P / 256)))
      refine ⟨⟨t + 1, (D'.set (od + 2 * t) (z1 ^^^ (P % 256))).set (od + (2 * t + 1)) (z2 ^^^ (P / 256)), by omega, by simp; omega, (HL.out.set (by omega) (Nat.xor_lt_two_pow (n := 8) z81 (by show P % 256 < 256; omega))).set (by omega) (Nat.xor_lt_two_pow (n := 8) z82 (by show P / 256 < 256; omega)), ?_⟩, ?_⟩
      · exact S4.out
      · simp [intOf]; omega
    · have h2 := H2.out
      obtain rfl : n = 2 * t := by omega
      go_wp2_with fail
      go_ret
      exact ⟨D', rfl, HL.out, S2.out.nil⟩

theorem wr_take {D l : List Nat} (h : l.length ≤ D.length) : (Wr.wr D 0 l).take l.length = l := by
  apply List.ext_getElem?
  intro j
  rw [List.getElem?_take]
  by_cases hj : j < l.length
  · rw [if_pos hj, wr_get _ _ _ _ (by omega), if_pos (by omega)]; rfl
  · rw [if_neg hj, List.getElem?_eq_none (by omega)]

theorem b7 : B8 [7] := B8.of_all (by decide)
theorem b12349 : B8 [1, 2, 3, 4, 9] := B8.of_all (by decide)

set_option maxRecDepth 100000 in
set_option maxHeartbeats 4000000 in
theorem lapped_st {p : Addr} {c : Nat} {A : Option Addr} {n cp : Nat} {x : List Nat} {w : World} (hc : c < 65536) (hx : x.length = n) (h2 : n % 2 = 0) (hn : n ≤ 140737488351232) (hr : Rd w A x) (h8 : B8 x) :
    Calls Try.prog 21 #[.pointer (some p), .int .u16 c, .slice A n cp] w fun e w' => e = .returned (.bool true) ∧ St w w' [] [] := by
  have HE := Lib.hid h2; have HN := Lib.hid hx; have HR := Lib.hid hr; have H8 := Lib.hid h8
  clear hx hr h8 h2
  have S0 := Lib.hid (St.start w)
  go_enter Try.func21, Try.ntmps21
  go_wp2_with (first
    | ((with_reducible refine at_slot (N := 9) rfl ?_); refine ev rfl (bslice_run _ 5 1 _ (row .u8 [7]) rfl (fun _ => by kernel_rfl)) ?_; have S1 := Lib.hid (S0.out.alloc 5 (row .u8 [7])); clear S0)
    | ((with_reducible refine at_slot (N := 11) rfl ?_); refine append_on rfl _ _ rfl w.heap.size 1 [7] [7] rfl rfl S1.out (Nat.le_refl _) (by decide) b7 rfl A n cp x rfl HN.out (S1.out.ext HR.out) H8.out (by omega) ?_; intro b1 D1 w2 q1 q2 q3 q4 hs; have S2 := Lib.hid hs; have Q3 := Lib.hid q3; have Q4 := Lib.hid q4; clear hs q3 q4 S1)
    | ((with_reducible refine at_slot (N := 13) rfl ?_); refine ev rfl (bslice_run _ 5 5 _ (row .u8 [1, 2, 3, 4, 9]) rfl (fun _ => by kernel_rfl)) ?_)
    | ((with_reducible refine at_slot (N := 14) rfl ?_); refine append_on rfl _ _ rfl b1 (1 + n) D1 ([7] ++ x) (by rw [List.length_append, HN.out]; rfl) rfl S2.out.skip q1 q2 Q3.out Q4.out (some ⟨w2.heap.size, 0, none⟩) 5 5 [1, 2, 3, 4, 9] rfl rfl (Rd.of_blk (Blk.new w2 _ _)) b12349 (by omega) ?_; intro wb D w3 q5 q6 q7 q8 hs; have S3 := Lib.hid hs; have Q7 := Lib.hid q7; have Q8 := Lib.hid q8; clear hs q7 q8 S2))
  obtain ⟨M, hM⟩ : ∃ M, n + 2 = M := ⟨_, rfl⟩
  obtain ⟨N, hN⟩ : ∃ N, 1 + n + 5 = N := ⟨_, rfl⟩
  have hNM : N = M + 4 := by omega
  have HD0 : Hid (D.getD 0 0 = 7) := Lib.hid (by rw [getD_take Q8.out (by simp)]; simp)
  have HD9 : Hid (D.getD (N - 1) 0 = 9) := Lib.hid (by
    rw [getD_take Q8.out (by rw [List.length_append, List.length_append, HN.out]; simp; omega), List.getD_eq_getElem?_getD, List.getElem?_append_right (by rw [List.length_append, HN.out]; simp; omega)]
    rw [List.length_append, HN.out, show N - 1 - ([7].length + n) = 4 from by simp; omega]
    rfl)
  have hMb : M ≤ 281474976710656 := by omega
  have hDl : M + 4 ≤ D.length := by omega
  have eN : (1 : Int) + (n : Int) + 5 = (N : Int) := by omega
  have s1 : IntKind.i64.wrap ((N : Int) - 1) = (N : Int) - 1 := IntWalk.i64_in _ (by omega)
  have s2 : IntKind.i64.wrap ((N : Int) - 3) = (N : Int) - 3 := IntWalk.i64_in _ (by omega)
  have t1 : ((N : Int) - 1).toNat = N - 1 := by omega
  have t2 : ((N : Int) - 3).toNat = N - 3 := by omega
  have u1 : (0 : Int) ≤ (N : Int) - 1 := by omega
  have u2 : (0 : Int) ≤ (N : Int) - 3 := by omega
  have u3 : (3 : Int) ≤ (N : Int) - 1 := by omega
  have u4 : (1 : Int) ≤ (N : Int) - 3 := by omega
  have u5 : (N : Int) - 1 ≤ (D.length : Int) := by omega
  have u6 : (N : Int) - 3 ≤ (D.length : Int) := by omega
  have v1 : 3 ≤ N - 1 := by omega
  have v2 : 1 ≤ N - 3 := by omega
  have v3 : (N : Int) - 1 < (N : Int) := by omega
  have v4 : (0 : Int) < (N : Int) := by omega
  have v5 : N - 1 < N := by omega
  have v6 : 0 < N := by omega
  have y1 : (1 : Int) ≤ (N : Int) := by omega
  have y2 : 1 ≤ N := by omega
  have y3 : (3 : Int) ≤ (N : Int) := by omega
  have f1 : N - 1 - 3 = M := by omega
  have f2 : N - 3 - 1 = M := by omega
  have g1 : ¬ D.length = 3 := by omega
  have g2 : ¬ D.length = 1 := by omega
  have ME : Hid (M % 2 = 0) := Lib.hid (by have := HE.out; omega)
  have HNM := Lib.hid hNM; have HMN := Lib.hid hM
  clear hNM hM
  have S3d := Lib.hid S3.out.drew
  clear S3
  have m0 := (S3d.out.blk mem0).cellRow (i := 0) (by omega)
  have m9 := (S3d.out.blk mem0).cellRow (i := N - 1) (by omega)
  rw [HD0.out] at m0
  rw [HD9.out] at m9
  have SS : ∀ w' : World, w'.cell? ⟨wb, 0, none⟩ = some (.int .u8 ((7 : Nat) : Int)) → w'.cell? ⟨wb, N - 1, none⟩ = some (.int .u8 ((9 : Nat) : Int)) → (w'.cell? ⟨wb, 0, none⟩ = some (.int .u8 7) ∧ w'.cell? ⟨wb, N - 1, none⟩ = some (.int .u8 9)) := fun w' a b => ⟨a, b⟩
  have HSS := Lib.hid SS
  clear SS
  go_region_held3 (fun w' => w'.cell? ⟨wb, 0, none⟩ = some (.int .u8 7) ∧ w'.cell? ⟨wb, N - 1, none⟩ = some (.int .u8 9)) (exact HSS.out _ (by assumption) (by assumption)) (first
    | (go_at_call 13; refine (mul_lap (od := 3) (os := 1) (n := M) hc (S3d.out.blk mem0) (by omega) (by omega) ME.out Q7.out hMb).mono ?_; rintro e w4 ⟨D', rfl, hl, hh⟩; have L4 := Lib.hid hl; have S4 := Lib.hid (S3d.out.callN (N1 := []) hh); clear hl hh S3d m0 m9; have m0 := (S4.out.blk mem0).cellRow (i := 0) (by rw [L4.out.1]; omega); have m9 := (S4.out.blk mem0).cellRow (i := N - 1) (by rw [L4.out.1]; omega); rw [L4.out.2.2 _ (.inl (by omega)), HD0.out] at m0; rw [L4.out.2.2 _ (.inr (by have := HNM.out; omega)), HD9.out] at m9)
    | (go_at_call 14; refine (add_lap (od := 1) (os := 3) (n := M) hc (S4.out.blk mem0) (by rw [L4.out.1]; omega) (by rw [L4.out.1]; omega) ME.out L4.out.2.1 hMb).mono ?_; rintro e w5 ⟨D'', rfl, hl, hh⟩; have L5 := Lib.hid hl; have S5 := Lib.hid (S4.out.callN (N1 := []) hh); clear hl hh S4 m0 m9; have m0 := (S5.out.blk mem0).cellRow (i := 0) (by rw [L5.out.1, L4.out.1]; omega); have m9 := (S5.out.blk mem0).cellRow (i := N - 1) (by rw [L5.out.1, L4.out.1]; omega); rw [L5.out.2.2 _ (.inl (by omega)), L4.out.2.2 _ (.inl (by omega)), HD0.out] at m0; rw [L5.out.2.2 _ (.inr (by omega)), L4.out.2.2 _ (.inr (by have := HNM.out; omega)), HD9.out] at m9))
  go_wp2_with fail
  go_ret
  exact ⟨rfl, S5.out.nil⟩

theorem wd_pm {c t : Nat} {l : List Nat} (h : 2 * t + 1 < l.length) : wd (pm c l) t = gm c (wd l t) := by
  show (pm c l).getD (2 * t) 0 + 256 * (pm c l).getD (2 * t + 1) 0 = _
  rw [pm_even (by omega), pm_odd' (by omega)]
  omega
theorem half_wd {l : List Nat} (h8 : B8 l) (i : Nat) : half (wd l (i / 2)) i = l.getD i 0 := by
  have h1 := get256 h8 (2 * (i / 2))
  have h2 := get256 h8 (2 * (i / 2) + 1)
  unfold half wd
  split
  · have e : 2 * (i / 2) = i := by omega
    rw [e] at h1 ⊢; omega
  · have e : 2 * (i / 2) + 1 = i := by omega
    rw [e] at h2 ⊢; omega
theorem wd_lt' {l : List Nat} (h8 : B8 l) (t : Nat) : wd l t < 65536 := by
  have h1 := get256 h8 (2 * t)
  have h2 := get256 h8 (2 * t + 1)
  unfold wd; omega
theorem pm_one {l : List Nat} (h8 : B8 l) : pm 1 l = l := by
  apply ext8
  · rw [pm_length]
  · intro i hi
    rw [pm_length] at hi
    rw [pm_get hi, one_gm (wd_lt' h8 _), half_wd h8]
theorem pm_zero (l : List Nat) : pm 0 l = zs l.length := by
  apply ext8
  · rw [pm_length, zs_length]
  · intro i hi
    rw [pm_length] at hi
    rw [pm_get hi, gm_zero_left, zs_getD]
    unfold half; split <;> rfl
theorem pm_back {s c : Nat} {l : List Nat} (hs : s < 65536) (hc : c < 65536) (hg : gm s c = 1) (h8 : B8 l) (h2 : l.length % 2 = 0) : pm s (pm c l) = l := by
  apply ext8
  · rw [pm_length, pm_length]
  · intro i hi
    rw [pm_length, pm_length] at hi
    rw [pm_get (by rw [pm_length]; exact hi), wd_pm (by omega), ← gm_assoc hs hc (wd_lt' h8 _), hg, one_gm (wd_lt' h8 _), half_wd h8]

set_option maxRecDepth 100000 in
set_option maxHeartbeats 4000000 in
theorem back_walk (c : Nat) (A : Option Addr) (n cp : Nat) (x : List Nat) (w : World) (hc : c < 65536) (h : (Kk.kSlice Kk.kByte 1).ok w.heap.size w [.slice A n cp] x) :
    Calls Try.prog 7 #[.int .u16 (c : Int), .slice A n cp] w fun e w' => e = .returned (.bool true) ∧ Below w.heap.size w w' := by
  obtain ⟨hl, hn, hcp, hr, h8, _⟩ := open_bytes h
  obtain ⟨q, hq⟩ : ∃ q, n / 2 * 2 = q := ⟨_, rfl⟩
  have HQ := Lib.hid hq
  have Q2 := Lib.hid (show q % 2 = 0 by omega)
  have qn : q ≤ n := by omega
  have qc : q ≤ cp := by omega
  have qb : q ≤ 281474976710656 := by omega
  have qb2 : q ≤ 140737488351232 := by omega
  have R0 := rd_take hr q
  have B0 := h8.take q
  have L0 : (x.take q).length = q := by rw [List.length_take]; omega
  obtain ⟨X, hX⟩ : ∃ X, x.take q = X := ⟨_, rfl⟩
  rw [hX] at R0 B0 L0
  have HR := Lib.hid R0; have H8 := Lib.hid B0; have HL := Lib.hid L0
  have HPL : Hid ((pm c X).length = q) := Lib.hid (by rw [pm_length, L0])
  have HPB := Lib.hid (pm_b8 hc X)
  have H1 : Hid (pm 1 X = X) := Lib.hid (pm_one B0)
  have HXX : Hid (xs X X = zs q) := Lib.hid (by rw [xs_self, L0])
  clear h hl hr h8 R0 B0 hX hq L0
  have S0 := Lib.hid (St.start w)
  go_enter Try.func7, Try.ntmps7
  go_wp2_with fail
  refine (awake_st _).mono ?_
  rintro e w1 ⟨k, rfl, hh⟩
  have h1 := S0.out.call hh; clear hh S0
  try simp only [List.nil_append, List.cons_append, List.append_eq, Int.toNat_natCast] at h1
  have S1 := Lib.hid h1; clear h1
  go_wp2_with fail
  refine (even_st A n cp _ hcp hn).mono ?_
  rintro e _ ⟨rfl, rfl⟩
  rw [HQ.out]
  go_wp2_with ((with_reducible refine at_slot (N := 16) rfl ?_); refine make_law rfl 24 5 _ .u8 (q) 1 rfl rfl Try.underlying24 info_u8 (by omega) (by omega) S1.out ?_; intro db w2 h2; (try simp only [World.size_alloc, List.nil_append, List.cons_append, List.append_eq] at h2); have S2 := Lib.hid h2; clear h2 S1)
  refine (lapped_st hc HL.out Q2.out qb2 (S2.out.ext HR.out) H8.out).mono ?_
  rintro e w3 ⟨rfl, hh⟩
  have h3 := S2.out.call hh; clear hh S2
  try simp only [List.nil_append, List.cons_append, List.append_eq, Int.toNat_natCast] at h3
  have S3 := Lib.hid h3; clear h3
  go_wp2_with fail
  refine (mul_st (by decide) (by decide) (S3.out.blk mem0) (zs_length q) HL.out Q2.out H8.out qb (Srcs.ext S3.out mem0 HR.out)).mono ?_
  rintro e w4 ⟨rfl, hh⟩
  have h4 := S3.out.callN (N1 := []) hh; clear hh S3
  try simp only [List.nil_append, List.cons_append, List.append_eq, Int.toNat_natCast] at h4
  rw [show (1 : Int).toNat = 1 from rfl, H1.out] at h4
  have S4 := Lib.hid h4; clear h4
  go_wp2_with fail
  refine (equal_st HL.out qb (S4.out.rd mem0) (S4.out.ext HR.out)).mono ?_
  rintro e w5 ⟨rfl, hh⟩
  have h5 := S4.out.call hh; clear hh S4
  try simp only [List.nil_append, List.cons_append, List.append_eq, Int.toNat_natCast] at h5
  have S5 := Lib.hid h5; clear h5
  go_wp2_with fail
  refine (mul_st (by omega) (by omega) (S5.out.blk mem0) HL.out HL.out Q2.out H8.out qb (Srcs.selfN HL.out)).mono ?_
  rintro e w6 ⟨rfl, hh⟩
  have h6 := S5.out.callN (N1 := []) hh; clear hh S5
  try simp only [List.nil_append, List.cons_append, List.append_eq, Int.toNat_natCast] at h6
  have S6 := Lib.hid h6; clear h6
  have SN := S6.out
  by_cases h0 : c = 0
  · have H0 := Lib.hid h0
    have HZ : Hid (pm c X = zs q) := Lib.hid (by rw [H0.out, pm_zero, HL.out])
    rw [HZ.out] at SN
    have S20 := Lib.hid SN
    have IC : Hid (∀ W : World, Calls Try.prog 22 #[.int .u16 (c : Int)] W fun e w' => e = .returned (.tuple #[.int .u16 0, .int .i64 20]) ∧ W = w') := Lib.hid (fun W => by rw [H0.out]; exact Rg.inv16_zero W)
    have c0 : ((c : Int) == 0) = true := by rw [beq_iff_eq]; omega
    clear h0 SN
    go_wp2_with fail
    refine (IC.out _).mono ?_
    rintro e _ ⟨rfl, rfl⟩
    go_wp2_with ((with_reducible refine at_slot (N := 56) rfl ?_); refine evg rfl (make_zs 24 5 _ _ .u8 .i64 .i64 q q 1 rfl rfl rfl Try.underlying24 info_u8 (Nat.le_refl _) (by omega) (by omega)) ?_; have h21 := S20.out.alloc 5 (row .u8 (zs q)); (try simp only [World.size_alloc, List.nil_append, List.cons_append, List.append_eq] at h21); have S21 := Lib.hid h21; clear h21 S20)
    refine (equal_st (zs_length q) qb (S21.out.rd mem1) (S21.out.rd mem0)).mono ?_
    rintro e w22 ⟨rfl, hh⟩
    have h22 := S21.out.call hh; clear hh S21
    try simp only [List.nil_append, List.cons_append, List.append_eq, Int.toNat_natCast] at h22
    have S22 := Lib.hid h22; clear h22
    go_wp2_with fail
    go_ret
    exact ⟨rfl, S22.out.below⟩
  · have IC : Hid (∀ W : World, Calls Try.prog 22 #[.int .u16 (c : Int)] W fun e w' => ∃ s : Nat, e = .returned (.tuple #[.int .u16 (s : Int), .int .i64 0]) ∧ W = w' ∧ s < 65536 ∧ gm s c = 1) := Lib.hid (fun W => Rg.inv16_calls c W hc h0)
    have S20 := Lib.hid SN
    clear SN h0
    go_wp2_with fail
    refine (IC.out _).mono ?_
    rintro e _ ⟨s, rfl, rfl, hs, hg⟩
    have HB : Hid (pm s (pm c X) = X) := Lib.hid (pm_back hs hc hg H8.out (by rw [HL.out]; exact Q2.out))
    clear hg
    go_wp2_with fail
    refine (mul_st (by omega) (by omega) (S20.out.blk mem0) HPL.out HPL.out Q2.out HPB.out qb (Srcs.selfN HPL.out)).mono ?_
    rintro e w21 ⟨rfl, hh⟩
    have h21 := S20.out.callN (N1 := []) hh; clear hh S20
    try simp only [List.nil_append, List.cons_append, List.append_eq, Int.toNat_natCast] at h21
    rw [HB.out] at h21
    have S21 := Lib.hid h21; clear h21
    go_wp2_with fail
    refine (equal_st HL.out qb (S21.out.rd mem0) (S21.out.ext HR.out)).mono ?_
    rintro e w22 ⟨rfl, hh⟩
    have h22 := S21.out.call hh; clear hh S21
    try simp only [List.nil_append, List.cons_append, List.append_eq, Int.toNat_natCast] at h22
    have S22 := Lib.hid h22; clear h22
    go_wp2_with fail
    refine (add_st (by decide) (by decide) (S22.out.blk mem0) HL.out HL.out Q2.out H8.out H8.out qb (Srcs.selfN HL.out)).mono ?_
    rintro e w23 ⟨rfl, hh⟩
    have h23 := S22.out.callN (N1 := []) hh; clear hh S22
    try simp only [List.nil_append, List.cons_append, List.append_eq, Int.toNat_natCast] at h23
    rw [show (1 : Int).toNat = 1 from rfl, H1.out, HXX.out] at h23
    have S23 := Lib.hid h23; clear h23
    go_wp2_with ((with_reducible refine at_slot (N := 81) rfl ?_); refine evg rfl (make_zs 24 5 _ _ .u8 .i64 .i64 q q 1 rfl rfl rfl Try.underlying24 info_u8 (Nat.le_refl _) (by omega) (by omega)) ?_; have h24 := S23.out.alloc 5 (row .u8 (zs q)); (try simp only [World.size_alloc, List.nil_append, List.cons_append, List.append_eq] at h24); have S24 := Lib.hid h24; clear h24 S23)
    refine (equal_st (zs_length q) qb (S24.out.rd mem1) (S24.out.rd mem0)).mono ?_
    rintro e w25 ⟨rfl, hh⟩
    have h25 := S24.out.call hh; clear hh S24
    try simp only [List.nil_append, List.cons_append, List.append_eq, Int.toNat_natCast] at h25
    have S25 := Lib.hid h25; clear h25
    go_wp2_with fail
    go_ret
    exact ⟨rfl, S25.out.below⟩

end Go.Proofs.Ytadgjmlkpnifoaa.Pq
