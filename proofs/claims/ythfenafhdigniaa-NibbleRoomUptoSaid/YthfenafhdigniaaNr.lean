/- Layer 6: the law NibbleRoom (what is read within the bound): pieces of longer arrays (printed by gen/mk_nr.py). -/
import Derived.Test.YthfenafhdigniaaN6
import Derived.Test.YthfenafhdigniaaKu
import Derived.Test.YthfenafhdigniaaOb
namespace Go.Proofs.Ythfenafhdigniaa.L6
set_option linter.unusedSimpArgs false
set_option linter.unusedVariables false
open Go Go.RowKit Go.Proofs.Ythfenafhdigniaa Go.Proofs.Ythfenafhdigniaa.Mm Go.Proofs.Ythfenafhdigniaa.Gf Go.Proofs.Ythfenafhdigniaa.Wr Go.Proofs.Ythfenafhdigniaa.Nb Go.Proofs.Ythfenafhdigniaa.St

theorem mul_off {p : Addr} {c : Nat} {bd od n cd : Nat} {A : Option Addr} {cs : Nat} {D l : List Nat} {w : World} (hc : c < 256) (hd : Bytes w bd D) (hn : od + n ≤ D.length) (hl : l.length = n) (h8 : B8 l) (hD8 : B8 D) (hnm : n ≤ 9223372036854775807)
    (hs : Rd w A l) (hne : ∀ b o, A = some ⟨b, o, none⟩ → b ≠ bd ∨ od ≤ o) :
    Calls Try.prog 20 #[.pointer (some p), .int .u8 (c : Int), .slice (some ⟨bd, od, none⟩) n cd, .slice A n cs] w fun e w' => e = .returned (.int .i64 0) ∧ St w w' [bt bd (Wr.wr D od (l.map (gm c)))] [] :=
  (mul_calls p c bd od n cd A cs D l w hc hd hn hl h8 hD8 hnm hs hne).mono fun e w' ⟨he, hm, hk⟩ => ⟨he, .of_but hk hm hd.lt⟩
theorem add_off {p : Addr} {c : Nat} {bd od n cd : Nat} {A : Option Addr} {cs : Nat} {D l y : List Nat} {w : World} (hc : c < 256) (hd : Bytes w bd D) (hn : od + n ≤ D.length) (hl : l.length = n) (h8 : B8 l) (hD8 : B8 D) (hnm : n ≤ 9223372036854775807)
    (hs : Rd w A l) (hne : ∀ b o, A = some ⟨b, o, none⟩ → b ≠ bd ∨ od ≤ o) (hy : y.length = n) (hyd : ∀ i, i < n → D.getD (od + i) 0 = y.getD i 0) :
    Calls Try.prog 21 #[.pointer (some p), .int .u8 (c : Int), .slice (some ⟨bd, od, none⟩) n cd, .slice A n cs] w fun e w' => e = .returned (.int .i64 0) ∧ St w w' [bt bd (Wr.wr D od (xs y (l.map (gm c))))] [] := by
  refine (add_calls p c bd od n cd A cs D l w hc hd hn hl h8 hD8 hnm hs hne).mono fun e w' ⟨he, hm, hk⟩ => ⟨he, ?_⟩
  have e1 : ((List.range n).map fun i => D.getD (od + i) 0 ^^^ gm c (l.getD i 0)) = xs y (l.map (gm c)) := by
    unfold xs
    rw [hy]
    apply List.map_congr_left
    intro i hi
    have hi' : i < n := by simpa using hi
    rw [hyd i hi']
    simp [show i < l.length by omega]
  rw [e1] at hm
  exact .of_but hk hm hd.lt
theorem mid_take {x y z : List Nat} {n m : Nat} (hx : x.length = n) (hy : y.length = m) : ((x ++ y ++ z).drop n).take m = y := by
  subst hx hy
  rw [List.append_assoc, List.drop_left, List.take_left]
theorem wr_mid {R x y z P : List Nat} {n m k : Nat} (hx : x.length = n) (hy : y.length = m) (hz : z.length = k) (hR : R.take (n + m + k) = x ++ y ++ z) (hP : P.length = m) (hl : n + m + k ≤ R.length) : (Wr.wr R n P).take (n + m + k) = x ++ P ++ z := by
  subst hx hz
  apply List.ext_getElem?
  intro j
  rw [List.getElem?_take]
  have hRj : ∀ j, j < x.length + m + z.length → R[j]? = (x ++ y ++ z)[j]? := fun j hj => by rw [← hR, List.getElem?_take_of_lt hj]
  by_cases hj : j < x.length + m + z.length
  · rw [if_pos hj, wr_get _ _ _ _ (by omega)]
    by_cases h1 : j < x.length
    · rw [if_neg (by omega), hRj j hj, List.append_assoc, List.append_assoc, List.getElem?_append_left h1, List.getElem?_append_left h1]
    · by_cases h2 : j < x.length + m
      · rw [if_pos (by omega), List.append_assoc, List.getElem?_append_right (by omega), List.getElem?_append_left (by omega)]
      · rw [if_neg (by omega), hRj j hj, List.getElem?_append_right (by rw [List.length_append]; omega), List.getElem?_append_right (by rw [List.length_append]; omega), List.length_append, List.length_append, hy, hP]
  · rw [if_neg hj, List.getElem?_eq_none (by rw [List.length_append, List.length_append]; omega)]
theorem mid_get {R x y z : List Nat} {n m k : Nat} (hx : x.length = n) (hy : y.length = m) (hR : R.take (n + m + k) = x ++ y ++ z) {i : Nat} (hi : i < m) : R.getD (n + i) 0 = y.getD i 0 := by
  subst hx
  have : R[x.length + i]? = (x ++ y ++ z)[x.length + i]? := by rw [← hR, List.getElem?_take_of_lt (by omega)]
  rw [List.getD_eq_getElem?_getD, List.getD_eq_getElem?_getD, this, List.append_assoc, List.getElem?_append_right (by omega), List.getElem?_append_left (by omega), Nat.add_sub_cancel_left]

set_option maxRecDepth 100000 in
set_option maxHeartbeats 4000000 in
theorem room_mul (c : Nat) (A1 : Option Addr) (n1 c1 : Nat) (x1 : List Nat) (A2 : Option Addr) (n2 c2 : Nat) (x2 : List Nat) (A3 : Option Addr) (c3 : Nat) (x3 : List Nat) (A4 : Option Addr) (n4 c4 : Nat) (x4 : List Nat) (w : World) (hc : c < 256) (h1 : x1.length = n1) (h2 : x2.length = n2) (h3 : x3.length = n2) (h4 : x4.length = n4) (u1 : n1 ≤ 1048576) (u2 : n2 ≤ 1048576) (u3 : n2 ≤ 1048576) (u4 : n4 ≤ 1048576) (r1 : Rd w A1 x1) (r2 : Rd w A2 x2) (r3 : Rd w A3 x3) (r4 : Rd w A4 x4) (b1 : B8 x1) (b2 : B8 x2) (b3 : B8 x3) (b4 : B8 x4) :
    Calls Try.prog 8 #[.agg #[.int .u8 (c : Int), .slice A1 n1 c1, .slice A2 n2 c2, .slice A3 n2 c3, .slice A4 n4 c4, .bool false]] w fun e w' => e = .returned (.bool true) ∧ St w w' [] [] := by
  have H1 := Lib.hid h1; have H2 := Lib.hid h2; have H3 := Lib.hid h3; have H4 := Lib.hid h4; have B1 := Lib.hid b1; have B2 := Lib.hid b2; have B3 := Lib.hid b3; have B4 := Lib.hid b4
  have HPL : Hid ((x3.map (gm c)).length = n2) := Lib.hid (by rw [List.length_map, h3])
  have B4' : Hid (B8 (x3.map (gm c))) := Lib.hid (by exact map_b8 hc)
  have SA := Lib.hid (St.start w)
  go_enter Try.func8, Try.ntmps8
  go_wp2_with ((with_reducible refine at_slot (N := 1) rfl ?_); refine box_law rfl 49 _ _ rfl rfl SA.out ?_; intro ob w0 hs; have SB := Lib.hid hs; clear hs SA; have oc0 := (SB.out.blk mem0).cell (i := 0) rfl; have oc1 := (SB.out.blk mem0).cell (i := 1) rfl; have oc2 := (SB.out.blk mem0).cell (i := 2) rfl; have oc3 := (SB.out.blk mem0).cell (i := 3) rfl; have oc4 := (SB.out.blk mem0).cell (i := 4) rfl; have oc5 := (SB.out.blk mem0).cell (i := 5) rfl; have hob := SB.out.lt mem0; have S0 := Lib.hid (St.start w0))
  have R1 := Lib.hid (SB.out.ext r1); have R2 := Lib.hid (SB.out.ext r2); have R3 := Lib.hid (SB.out.ext r3); have R4 := Lib.hid (SB.out.ext r4)
  clear h1 h2 h3 h4 r1 r2 r3 r4 b1 b2 b3 b4
  obtain ⟨rc0, rf0⟩ := S0.out.rules
  go_wp2_with fail
  clear rc0 rf0
  refine (fixed_st _).mono ?_
  rintro e w1 ⟨rfl, hh⟩
  have h1 := S0.out.call hh; clear hh S0
  try simp only [List.nil_append, List.cons_append, List.append_eq, Int.toNat_natCast] at h1
  have S1 := Lib.hid h1; clear h1
  obtain ⟨rc1, rf1⟩ := S1.out.rules
  go_wp2_with fail
  go_quiet (fail)
  clear rc1 rf1
  have S2 := Lib.hid (S1.out.drewN (n := nq)); clear S1 oc0 oc1 oc2 oc3 oc4 oc5 hob
  go_wp2_with fail
  refine (copied_st H1.out (by omega) (S2.out.ext R1.out)).mono ?_
  rintro e w3 ⟨gb, rfl, hh⟩
  have h3 := S2.out.call hh; clear hh S2
  try simp only [List.nil_append, List.cons_append, List.append_eq, Int.toNat_natCast] at h3
  have S3 := Lib.hid h3; clear h3
  go_wp2_with (first
    | ((with_reducible refine at_slot (N := 36) rfl ?_); refine append_on rfl _ _ rfl gb n1 x1 x1 H1.out (by rw [H1.out]; rfl) S3.out (by rw [H1.out]; exact Nat.le_refl _) (by rw [H1.out]; unfold maxLen; omega) B1.out (by rw [List.take_of_length_le (by rw [H1.out]; exact Nat.le_refl _)]) A2 n2 c2 x2 rfl H2.out (S3.out.ext R2.out) B2.out (by omega) ?_; intro rb1 D1 w4 p1 p2 p3 p4 h4; have P3 := Lib.hid p3; have P4 := Lib.hid p4; clear p3 p4; (try simp only [World.size_alloc, List.nil_append, List.cons_append, List.append_eq] at h4); have S4 := Lib.hid h4; clear h4 S3)
    | ((with_reducible refine at_slot (N := 38) rfl ?_); refine append_on rfl _ _ rfl rb1 (n1 + n2) D1 (x1 ++ x2) (by rw [List.length_append, H1.out, H2.out]) rfl S4.out p1 p2 P3.out P4.out A4 n4 c4 x4 rfl H4.out (S4.out.ext R4.out) B4.out (by omega) ?_; intro rb R w5 q1 q2 q3 q4 h5; have Q3 := Lib.hid q3; have Q4 := Lib.hid q4; clear q3 q4 P3 P4; (try simp only [World.size_alloc, List.nil_append, List.cons_append, List.append_eq] at h5); have S5 := Lib.hid h5; clear h5 S4))
  refine (copied_st H4.out (by omega) (S5.out.ext R4.out)).mono ?_
  rintro e w6 ⟨fb1, rfl, hh⟩
  have h6 := S5.out.call hh; clear hh S5
  try simp only [List.nil_append, List.cons_append, List.append_eq, Int.toNat_natCast] at h6
  have S6 := Lib.hid h6; clear h6
  go_wp2_with (first
    | ((with_reducible refine at_slot (N := 42) rfl ?_); refine append_on rfl _ _ rfl fb1 n4 x4 x4 H4.out (by rw [H4.out]; rfl) S6.out (by rw [H4.out]; exact Nat.le_refl _) (by rw [H4.out]; unfold maxLen; omega) B4.out (by rw [List.take_of_length_le (by rw [H4.out]; exact Nat.le_refl _)]) A3 n2 c3 x3 rfl H3.out (S6.out.ext R3.out) B3.out (by omega) ?_; intro fb2 E1 w7 p1 p2 p3 p4 h7; have P3 := Lib.hid p3; have P4 := Lib.hid p4; clear p3 p4; (try simp only [World.size_alloc, List.nil_append, List.cons_append, List.append_eq] at h7); have S7 := Lib.hid h7; clear h7 S6)
    | ((with_reducible refine at_slot (N := 44) rfl ?_); refine append_on rfl _ _ rfl fb2 (n4 + n2) E1 (x4 ++ x3) (by rw [List.length_append, H4.out, H3.out]) rfl S7.out p1 p2 P3.out P4.out A1 n1 c1 x1 rfl H1.out (S7.out.ext R1.out) B1.out (by omega) ?_; intro fb F w8 f1 f2 f3 f4 h8; have F4 := Lib.hid f4; clear f3 f4 P3 P4; (try simp only [World.size_alloc, List.nil_append, List.cons_append, List.append_eq] at h8); have S8 := Lib.hid h8; clear h8 S7))
  have HFL : Hid ((x4 ++ x3 ++ x1).length = n4 + n2 + n1) := Lib.hid (by rw [List.length_append, List.length_append, H4.out, H3.out, H1.out])
  have HRL : Hid ((x1 ++ (x3.map (gm c)) ++ x4).length = n1 + n2 + n4) := Lib.hid (by rw [List.length_append, List.length_append, H1.out, HPL.out, H4.out])
  refine (copied_st HFL.out (by omega) (S8.out.rdTake mem0 F4.out)).mono ?_
  rintro e w9 ⟨ub, rfl, hh⟩
  have h9 := S8.out.call hh; clear hh S8
  try simp only [List.nil_append, List.cons_append, List.append_eq, Int.toNat_natCast] at h9
  have S9 := Lib.hid h9; clear h9
  obtain ⟨M1, hM1⟩ : ∃ M1, n1 + n2 = M1 := ⟨_, rfl⟩
  obtain ⟨M2, hM2⟩ : ∃ M2, n4 + n2 = M2 := ⟨_, rfl⟩
  have e1 : (n1 : Int) + (n2 : Int) = (M1 : Int) := by omega
  have e2 : (n4 : Int) + (n2 : Int) = (M2 : Int) := by omega
  have g1 : M1 - n1 = n2 := by omega
  have g2 : M2 - n4 = n2 := by omega
  have g3 : (M1 : Int) ≤ (R.length : Int) := by omega
  have g4 : (M2 : Int) ≤ (F.length : Int) := by omega
  have g5 : (n1 : Int) ≤ (M1 : Int) := by omega
  have g6 : (n4 : Int) ≤ (M2 : Int) := by omega
  have g7 : M1 ≤ R.length := by omega
  have g8 : M2 ≤ F.length := by omega
  have g9 : n1 ≤ M1 := by omega
  have g10 : n4 ≤ M2 := by omega
  have g11 : (0 : Int) ≤ (n1 : Int) := by omega
  have g12 : (0 : Int) ≤ (n4 : Int) := by omega
  have HG := Lib.hid (And.intro hM1 hM2)
  clear hM1 hM2
  obtain ⟨od, eo, od1, od2⟩ : ∃ od, cutA (some ⟨rb, 0, none⟩) R.length n1 = some ⟨rb, od, none⟩ ∧ od ≤ n1 ∧ (0 < n2 → od = n1) := by
    unfold cutA
    split
    · exact ⟨0, rfl, Nat.zero_le _, fun h => by omega⟩
    · exact ⟨n1, by simp [Addr.add]; omega, Nat.le_refl _, fun _ => rfl⟩
  obtain ⟨og, eg, og1, og2⟩ : ∃ og, cutA (some ⟨fb, 0, none⟩) F.length n4 = some ⟨fb, og, none⟩ ∧ og ≤ n4 ∧ (0 < n2 → og = n4) := by
    unfold cutA
    split
    · exact ⟨0, rfl, Nat.zero_le _, fun h => by omega⟩
    · exact ⟨n4, by simp [Addr.add]; omega, Nat.le_refl _, fun _ => rfl⟩
  have HEO := Lib.hid eo; have HEG := Lib.hid eg; have HOD := Lib.hid (And.intro od1 od2); have HOG := Lib.hid (And.intro og1 og2)
  clear eo eg od1 od2 og1 og2
  have hsz : (Try.prog.info? 5).map (·.size) = some 1 := by kernel_rfl
  have HSZ := Lib.hid hsz
  clear hsz
  have HW : Hid (Wr.wr R od (x3.map (gm c)) = Wr.wr R n1 (x3.map (gm c))) := Lib.hid (by
    by_cases h0 : 0 < n2
    · rw [HOD.out.2 h0]
    · have : (x3.map (gm c)) = [] := List.eq_nil_of_length_eq_zero (by rw [HPL.out]; omega)
      rw [this]; rfl)
  go_wp2_with (first
    | ((with_reducible refine at_slot (N := 55) rfl ?_); refine slice_law rfl 22 5 Try.underlying22 HSZ.out _ _ _ rfl (some ⟨rb, 0, none⟩) (n1 + n2 + n4) R.length n1 n2 rfl (n1 : Int) (M1 : Int) (.inr ⟨rfl, rfl⟩) (.inr ⟨rfl, by omega⟩) (by omega) ?_; rw [HEO.out])
    | ((with_reducible refine at_slot (N := 64) rfl ?_); refine slice_law rfl 22 5 Try.underlying22 HSZ.out _ _ _ rfl (some ⟨fb, 0, none⟩) (n4 + n2 + n1) F.length n4 n2 rfl (n4 : Int) (M2 : Int) (.inr ⟨rfl, rfl⟩) (.inr ⟨rfl, by omega⟩) (by omega) ?_; rw [HEG.out]))
  refine (new_st _).mono ?_
  rintro e w10 ⟨k, rfl, hh⟩
  have h10 := S9.out.call hh; clear hh S9
  try simp only [List.nil_append, List.cons_append, List.append_eq, Int.toNat_natCast] at h10
  have S10 := Lib.hid h10; clear h10
  have RSX : Hid (Rd w10 (some ⟨fb, og, none⟩) x3) := Lib.hid (by
    intro hpos
    rw [HOG.out.2 (by rw [H3.out] at hpos; exact hpos)]
    revert hpos
    have h := (S10.out.rdTake mem1 F4.out).piece n4 n2
    rw [mid_take H4.out H3.out, Nat.zero_add] at h; exact h)
  go_wp2_with fail
  refine (mul_off (od := od) hc (S10.out.blk mem2) (by have := HOD.out.1; omega) H3.out B3.out Q3.out (by omega) RSX.out (fun b o e => .inl (by injection e with e; injection e with e1 _ _; have := S10.out.ne 1 2 rfl rfl (by decide); subst e1; exact this))).mono ?_
  rintro e w11 ⟨rfl, hh⟩
  have h11 := S10.out.callN (N1 := [_, _]) hh; clear hh S10
  try simp only [List.nil_append, List.cons_append, List.append_eq, Int.toNat_natCast] at h11
  rw [HW.out] at h11
  have S11 := Lib.hid h11; clear h11
  go_wp2_with fail
  refine (ref_mul c _ _ _ _ _ x2 x3 _ hc H3.out (by omega) (S11.out.ext R3.out) B3.out).mono ?_
  rintro e w12 ⟨A12, c12, m12, G12, hm12, rfl, hs, hg⟩
  obtain rfl : n2 = m12 := by rw [hm12]; exact (HPL.out).symm
  clear hm12
  have h12 := S11.out.callR hs; have HG12 := Lib.hid hg; clear hs hg S11
  try simp only [List.nil_append, List.cons_append, List.append_eq, List.append_nil, Int.toNat_natCast] at h12
  have S12 := Lib.hid h12; clear h12
  go_wp2_with fail
  refine (copied_st H1.out (by omega) (S12.out.ext R1.out)).mono ?_
  rintro e w13 ⟨wb0, rfl, hh⟩
  have h13 := S12.out.call hh; clear hh S12
  try simp only [List.nil_append, List.cons_append, List.append_eq, Int.toNat_natCast] at h13
  have S13 := Lib.hid h13; clear h13
  go_wp2_with (first
    | ((with_reducible refine at_slot (N := 96) rfl ?_); refine append_on rfl _ _ rfl wb0 n1 x1 x1 H1.out (by rw [H1.out]; rfl) S13.out (by rw [H1.out]; exact Nat.le_refl _) (by rw [H1.out]; unfold maxLen; omega) B1.out (by rw [List.take_of_length_le (by rw [H1.out]; exact Nat.le_refl _)]) A12 n2 c12 (x3.map (gm c)) rfl HPL.out (HG12.out.read S13.out (fun e he => by simp [he])) B4'.out (by omega) ?_; intro wb1 W1 w14 p1 p2 p3 p4 h14; have P3 := Lib.hid p3; have P4 := Lib.hid p4; clear p3 p4; (try simp only [World.size_alloc, List.nil_append, List.cons_append, List.append_eq] at h14); have S14 := Lib.hid h14; clear h14 S13)
    | ((with_reducible refine at_slot (N := 98) rfl ?_); refine append_on rfl _ _ rfl wb1 (n1 + n2) W1 (x1 ++ (x3.map (gm c))) (by rw [List.length_append, H1.out, HPL.out]) rfl S14.out p1 p2 P3.out P4.out A4 n4 c4 x4 rfl H4.out (S14.out.ext R4.out) B4.out (by omega) ?_; intro wb WW w15 o1 o2 o3 o4 h15; have O4 := Lib.hid o4; clear o3 o4 P3 P4; (try simp only [World.size_alloc, List.nil_append, List.cons_append, List.append_eq] at h15); have S15 := Lib.hid h15; clear h15 S14))
  refine (equal_st HRL.out (by omega) (S15.out.rdTake (b := rb) (t := 5) (D := (Wr.wr R n1 (x3.map (gm c)))) (by simp) (by exact wr_mid H1.out H2.out H4.out Q4.out HPL.out q1)) (S15.out.rdTake mem0 O4.out)).mono ?_
  rintro e w16 ⟨rfl, hh⟩
  have h16 := S15.out.call hh; clear hh S15
  try simp only [List.nil_append, List.cons_append, List.append_eq, Int.toNat_natCast] at h16
  have S16 := Lib.hid h16; clear h16
  go_wp2_with fail
  refine (equal_st HFL.out (by omega) (S16.out.rdTake (b := fb) (t := 5) (D := F) (by simp) F4.out) (S16.out.rd (b := ub) (t := 5) (by simp))).mono ?_
  rintro e w17 ⟨rfl, hh⟩
  have h17 := S16.out.call hh; clear hh S16
  try simp only [List.nil_append, List.cons_append, List.append_eq, Int.toNat_natCast] at h17
  have S17 := Lib.hid h17; clear h17
  go_wp2_with fail
  go_ret
  exact ⟨rfl, (SB.out.call S17.out).nil⟩

set_option maxRecDepth 100000 in
set_option maxHeartbeats 4000000 in
theorem room_add (c : Nat) (A1 : Option Addr) (n1 c1 : Nat) (x1 : List Nat) (A2 : Option Addr) (n2 c2 : Nat) (x2 : List Nat) (A3 : Option Addr) (c3 : Nat) (x3 : List Nat) (A4 : Option Addr) (n4 c4 : Nat) (x4 : List Nat) (w : World) (hc : c < 256) (h1 : x1.length = n1) (h2 : x2.length = n2) (h3 : x3.length = n2) (h4 : x4.length = n4) (u1 : n1 ≤ 1048576) (u2 : n2 ≤ 1048576) (u3 : n2 ≤ 1048576) (u4 : n4 ≤ 1048576) (r1 : Rd w A1 x1) (r2 : Rd w A2 x2) (r3 : Rd w A3 x3) (r4 : Rd w A4 x4) (b1 : B8 x1) (b2 : B8 x2) (b3 : B8 x3) (b4 : B8 x4) :
    Calls Try.prog 8 #[.agg #[.int .u8 (c : Int), .slice A1 n1 c1, .slice A2 n2 c2, .slice A3 n2 c3, .slice A4 n4 c4, .bool true]] w fun e w' => e = .returned (.bool true) ∧ St w w' [] [] := by
  have H1 := Lib.hid h1; have H2 := Lib.hid h2; have H3 := Lib.hid h3; have H4 := Lib.hid h4; have B1 := Lib.hid b1; have B2 := Lib.hid b2; have B3 := Lib.hid b3; have B4 := Lib.hid b4
  have HPL : Hid ((xs x2 (x3.map (gm c))).length = n2) := Lib.hid (by rw [xs_length, h2])
  have B4' : Hid (B8 (xs x2 (x3.map (gm c)))) := Lib.hid (by exact xs_b8 b2 (map_b8 hc) (by rw [List.length_map, h2, h3]))
  have SA := Lib.hid (St.start w)
  go_enter Try.func8, Try.ntmps8
  go_wp2_with ((with_reducible refine at_slot (N := 1) rfl ?_); refine box_law rfl 49 _ _ rfl rfl SA.out ?_; intro ob w0 hs; have SB := Lib.hid hs; clear hs SA; have oc0 := (SB.out.blk mem0).cell (i := 0) rfl; have oc1 := (SB.out.blk mem0).cell (i := 1) rfl; have oc2 := (SB.out.blk mem0).cell (i := 2) rfl; have oc3 := (SB.out.blk mem0).cell (i := 3) rfl; have oc4 := (SB.out.blk mem0).cell (i := 4) rfl; have oc5 := (SB.out.blk mem0).cell (i := 5) rfl; have hob := SB.out.lt mem0; have S0 := Lib.hid (St.start w0))
  have R1 := Lib.hid (SB.out.ext r1); have R2 := Lib.hid (SB.out.ext r2); have R3 := Lib.hid (SB.out.ext r3); have R4 := Lib.hid (SB.out.ext r4)
  clear h1 h2 h3 h4 r1 r2 r3 r4 b1 b2 b3 b4
  obtain ⟨rc0, rf0⟩ := S0.out.rules
  go_wp2_with fail
  clear rc0 rf0
  refine (fixed_st _).mono ?_
  rintro e w1 ⟨rfl, hh⟩
  have h1 := S0.out.call hh; clear hh S0
  try simp only [List.nil_append, List.cons_append, List.append_eq, Int.toNat_natCast] at h1
  have S1 := Lib.hid h1; clear h1
  obtain ⟨rc1, rf1⟩ := S1.out.rules
  go_wp2_with fail
  go_quiet (fail)
  clear rc1 rf1
  have S2 := Lib.hid (S1.out.drewN (n := nq)); clear S1 oc0 oc1 oc2 oc3 oc4 oc5 hob
  go_wp2_with fail
  refine (copied_st H1.out (by omega) (S2.out.ext R1.out)).mono ?_
  rintro e w3 ⟨gb, rfl, hh⟩
  have h3 := S2.out.call hh; clear hh S2
  try simp only [List.nil_append, List.cons_append, List.append_eq, Int.toNat_natCast] at h3
  have S3 := Lib.hid h3; clear h3
  go_wp2_with (first
    | ((with_reducible refine at_slot (N := 36) rfl ?_); refine append_on rfl _ _ rfl gb n1 x1 x1 H1.out (by rw [H1.out]; rfl) S3.out (by rw [H1.out]; exact Nat.le_refl _) (by rw [H1.out]; unfold maxLen; omega) B1.out (by rw [List.take_of_length_le (by rw [H1.out]; exact Nat.le_refl _)]) A2 n2 c2 x2 rfl H2.out (S3.out.ext R2.out) B2.out (by omega) ?_; intro rb1 D1 w4 p1 p2 p3 p4 h4; have P3 := Lib.hid p3; have P4 := Lib.hid p4; clear p3 p4; (try simp only [World.size_alloc, List.nil_append, List.cons_append, List.append_eq] at h4); have S4 := Lib.hid h4; clear h4 S3)
    | ((with_reducible refine at_slot (N := 38) rfl ?_); refine append_on rfl _ _ rfl rb1 (n1 + n2) D1 (x1 ++ x2) (by rw [List.length_append, H1.out, H2.out]) rfl S4.out p1 p2 P3.out P4.out A4 n4 c4 x4 rfl H4.out (S4.out.ext R4.out) B4.out (by omega) ?_; intro rb R w5 q1 q2 q3 q4 h5; have Q3 := Lib.hid q3; have Q4 := Lib.hid q4; clear q3 q4 P3 P4; (try simp only [World.size_alloc, List.nil_append, List.cons_append, List.append_eq] at h5); have S5 := Lib.hid h5; clear h5 S4))
  refine (copied_st H4.out (by omega) (S5.out.ext R4.out)).mono ?_
  rintro e w6 ⟨fb1, rfl, hh⟩
  have h6 := S5.out.call hh; clear hh S5
  try simp only [List.nil_append, List.cons_append, List.append_eq, Int.toNat_natCast] at h6
  have S6 := Lib.hid h6; clear h6
  go_wp2_with (first
    | ((with_reducible refine at_slot (N := 42) rfl ?_); refine append_on rfl _ _ rfl fb1 n4 x4 x4 H4.out (by rw [H4.out]; rfl) S6.out (by rw [H4.out]; exact Nat.le_refl _) (by rw [H4.out]; unfold maxLen; omega) B4.out (by rw [List.take_of_length_le (by rw [H4.out]; exact Nat.le_refl _)]) A3 n2 c3 x3 rfl H3.out (S6.out.ext R3.out) B3.out (by omega) ?_; intro fb2 E1 w7 p1 p2 p3 p4 h7; have P3 := Lib.hid p3; have P4 := Lib.hid p4; clear p3 p4; (try simp only [World.size_alloc, List.nil_append, List.cons_append, List.append_eq] at h7); have S7 := Lib.hid h7; clear h7 S6)
    | ((with_reducible refine at_slot (N := 44) rfl ?_); refine append_on rfl _ _ rfl fb2 (n4 + n2) E1 (x4 ++ x3) (by rw [List.length_append, H4.out, H3.out]) rfl S7.out p1 p2 P3.out P4.out A1 n1 c1 x1 rfl H1.out (S7.out.ext R1.out) B1.out (by omega) ?_; intro fb F w8 f1 f2 f3 f4 h8; have F4 := Lib.hid f4; clear f3 f4 P3 P4; (try simp only [World.size_alloc, List.nil_append, List.cons_append, List.append_eq] at h8); have S8 := Lib.hid h8; clear h8 S7))
  have HFL : Hid ((x4 ++ x3 ++ x1).length = n4 + n2 + n1) := Lib.hid (by rw [List.length_append, List.length_append, H4.out, H3.out, H1.out])
  have HRL : Hid ((x1 ++ (xs x2 (x3.map (gm c))) ++ x4).length = n1 + n2 + n4) := Lib.hid (by rw [List.length_append, List.length_append, H1.out, HPL.out, H4.out])
  refine (copied_st HFL.out (by omega) (S8.out.rdTake mem0 F4.out)).mono ?_
  rintro e w9 ⟨ub, rfl, hh⟩
  have h9 := S8.out.call hh; clear hh S8
  try simp only [List.nil_append, List.cons_append, List.append_eq, Int.toNat_natCast] at h9
  have S9 := Lib.hid h9; clear h9
  obtain ⟨M1, hM1⟩ : ∃ M1, n1 + n2 = M1 := ⟨_, rfl⟩
  obtain ⟨M2, hM2⟩ : ∃ M2, n4 + n2 = M2 := ⟨_, rfl⟩
  have e1 : (n1 : Int) + (n2 : Int) = (M1 : Int) := by omega
  have e2 : (n4 : Int) + (n2 : Int) = (M2 : Int) := by omega
  have g1 : M1 - n1 = n2 := by omega
  have g2 : M2 - n4 = n2 := by omega
  have g3 : (M1 : Int) ≤ (R.length : Int) := by omega
  have g4 : (M2 : Int) ≤ (F.length : Int) := by omega
  have g5 : (n1 : Int) ≤ (M1 : Int) := by omega
  have g6 : (n4 : Int) ≤ (M2 : Int) := by omega
  have g7 : M1 ≤ R.length := by omega
  have g8 : M2 ≤ F.length := by omega
  have g9 : n1 ≤ M1 := by omega
  have g10 : n4 ≤ M2 := by omega
  have g11 : (0 : Int) ≤ (n1 : Int) := by omega
  have g12 : (0 : Int) ≤ (n4 : Int) := by omega
  have HG := Lib.hid (And.intro hM1 hM2)
  clear hM1 hM2
  obtain ⟨od, eo, od1, od2⟩ : ∃ od, cutA (some ⟨rb, 0, none⟩) R.length n1 = some ⟨rb, od, none⟩ ∧ od ≤ n1 ∧ (0 < n2 → od = n1) := by
    unfold cutA
    split
    · exact ⟨0, rfl, Nat.zero_le _, fun h => by omega⟩
    · exact ⟨n1, by simp [Addr.add]; omega, Nat.le_refl _, fun _ => rfl⟩
  obtain ⟨og, eg, og1, og2⟩ : ∃ og, cutA (some ⟨fb, 0, none⟩) F.length n4 = some ⟨fb, og, none⟩ ∧ og ≤ n4 ∧ (0 < n2 → og = n4) := by
    unfold cutA
    split
    · exact ⟨0, rfl, Nat.zero_le _, fun h => by omega⟩
    · exact ⟨n4, by simp [Addr.add]; omega, Nat.le_refl _, fun _ => rfl⟩
  have HEO := Lib.hid eo; have HEG := Lib.hid eg; have HOD := Lib.hid (And.intro od1 od2); have HOG := Lib.hid (And.intro og1 og2)
  clear eo eg od1 od2 og1 og2
  have hsz : (Try.prog.info? 5).map (·.size) = some 1 := by kernel_rfl
  have HSZ := Lib.hid hsz
  clear hsz
  have HW : Hid (Wr.wr R od (xs x2 (x3.map (gm c))) = Wr.wr R n1 (xs x2 (x3.map (gm c)))) := Lib.hid (by
    by_cases h0 : 0 < n2
    · rw [HOD.out.2 h0]
    · have : (xs x2 (x3.map (gm c))) = [] := List.eq_nil_of_length_eq_zero (by rw [HPL.out]; omega)
      rw [this]; rfl)
  go_wp2_with (first
    | ((with_reducible refine at_slot (N := 55) rfl ?_); refine slice_law rfl 22 5 Try.underlying22 HSZ.out _ _ _ rfl (some ⟨rb, 0, none⟩) (n1 + n2 + n4) R.length n1 n2 rfl (n1 : Int) (M1 : Int) (.inr ⟨rfl, rfl⟩) (.inr ⟨rfl, by omega⟩) (by omega) ?_; rw [HEO.out])
    | ((with_reducible refine at_slot (N := 64) rfl ?_); refine slice_law rfl 22 5 Try.underlying22 HSZ.out _ _ _ rfl (some ⟨fb, 0, none⟩) (n4 + n2 + n1) F.length n4 n2 rfl (n4 : Int) (M2 : Int) (.inr ⟨rfl, rfl⟩) (.inr ⟨rfl, by omega⟩) (by omega) ?_; rw [HEG.out]))
  refine (new_st _).mono ?_
  rintro e w10 ⟨k, rfl, hh⟩
  have h10 := S9.out.call hh; clear hh S9
  try simp only [List.nil_append, List.cons_append, List.append_eq, Int.toNat_natCast] at h10
  have S10 := Lib.hid h10; clear h10
  have RSX : Hid (Rd w10 (some ⟨fb, og, none⟩) x3) := Lib.hid (by
    intro hpos
    rw [HOG.out.2 (by rw [H3.out] at hpos; exact hpos)]
    revert hpos
    have h := (S10.out.rdTake mem1 F4.out).piece n4 n2
    rw [mid_take H4.out H3.out, Nat.zero_add] at h; exact h)
  go_wp2_with fail
  refine (add_off (od := od) hc (S10.out.blk mem2) (by have := HOD.out.1; omega) H3.out B3.out Q3.out (by omega) RSX.out (fun b o e => .inl (by injection e with e; injection e with e1 _ _; have := S10.out.ne 1 2 rfl rfl (by decide); subst e1; exact this)) H2.out (fun i hi => by rw [HOD.out.2 (by omega)]; exact mid_get H1.out H2.out Q4.out hi)).mono ?_
  rintro e w11 ⟨rfl, hh⟩
  have h11 := S10.out.callN (N1 := [_, _]) hh; clear hh S10
  try simp only [List.nil_append, List.cons_append, List.append_eq, Int.toNat_natCast] at h11
  rw [HW.out] at h11
  have S11 := Lib.hid h11; clear h11
  go_wp2_with fail
  refine (ref_add c _ _ _ _ _ x2 x3 _ hc H2.out H3.out (by omega) (S11.out.ext R2.out) (S11.out.ext R3.out) B2.out B3.out).mono ?_
  rintro e w12 ⟨A12, c12, m12, G12, hm12, rfl, hs, hg⟩
  obtain rfl : n2 = m12 := by rw [hm12]; exact (HPL.out).symm
  clear hm12
  have h12 := S11.out.callR hs; have HG12 := Lib.hid hg; clear hs hg S11
  try simp only [List.nil_append, List.cons_append, List.append_eq, List.append_nil, Int.toNat_natCast] at h12
  have S12 := Lib.hid h12; clear h12
  go_wp2_with fail
  refine (copied_st H1.out (by omega) (S12.out.ext R1.out)).mono ?_
  rintro e w13 ⟨wb0, rfl, hh⟩
  have h13 := S12.out.call hh; clear hh S12
  try simp only [List.nil_append, List.cons_append, List.append_eq, Int.toNat_natCast] at h13
  have S13 := Lib.hid h13; clear h13
  go_wp2_with (first
    | ((with_reducible refine at_slot (N := 96) rfl ?_); refine append_on rfl _ _ rfl wb0 n1 x1 x1 H1.out (by rw [H1.out]; rfl) S13.out (by rw [H1.out]; exact Nat.le_refl _) (by rw [H1.out]; unfold maxLen; omega) B1.out (by rw [List.take_of_length_le (by rw [H1.out]; exact Nat.le_refl _)]) A12 n2 c12 (xs x2 (x3.map (gm c))) rfl HPL.out (HG12.out.read S13.out (fun e he => by simp [he])) B4'.out (by omega) ?_; intro wb1 W1 w14 p1 p2 p3 p4 h14; have P3 := Lib.hid p3; have P4 := Lib.hid p4; clear p3 p4; (try simp only [World.size_alloc, List.nil_append, List.cons_append, List.append_eq] at h14); have S14 := Lib.hid h14; clear h14 S13)
    | ((with_reducible refine at_slot (N := 98) rfl ?_); refine append_on rfl _ _ rfl wb1 (n1 + n2) W1 (x1 ++ (xs x2 (x3.map (gm c)))) (by rw [List.length_append, H1.out, HPL.out]) rfl S14.out p1 p2 P3.out P4.out A4 n4 c4 x4 rfl H4.out (S14.out.ext R4.out) B4.out (by omega) ?_; intro wb WW w15 o1 o2 o3 o4 h15; have O4 := Lib.hid o4; clear o3 o4 P3 P4; (try simp only [World.size_alloc, List.nil_append, List.cons_append, List.append_eq] at h15); have S15 := Lib.hid h15; clear h15 S14))
  refine (equal_st HRL.out (by omega) (S15.out.rdTake (b := rb) (t := 5) (D := (Wr.wr R n1 (xs x2 (x3.map (gm c))))) (by simp) (by exact wr_mid H1.out H2.out H4.out Q4.out HPL.out q1)) (S15.out.rdTake mem0 O4.out)).mono ?_
  rintro e w16 ⟨rfl, hh⟩
  have h16 := S15.out.call hh; clear hh S15
  try simp only [List.nil_append, List.cons_append, List.append_eq, Int.toNat_natCast] at h16
  have S16 := Lib.hid h16; clear h16
  go_wp2_with fail
  refine (equal_st HFL.out (by omega) (S16.out.rdTake (b := fb) (t := 5) (D := F) (by simp) F4.out) (S16.out.rd (b := ub) (t := 5) (by simp))).mono ?_
  rintro e w17 ⟨rfl, hh⟩
  have h17 := S16.out.call hh; clear hh S16
  try simp only [List.nil_append, List.cons_append, List.append_eq, Int.toNat_natCast] at h17
  have S17 := Lib.hid h17; clear h17
  go_wp2_with fail
  go_ret
  exact ⟨rfl, (SB.out.call S17.out).nil⟩

set_option maxRecDepth 100000 in
set_option maxHeartbeats 4000000 in
theorem room_mul_ne (c : Nat) (A1 : Option Addr) (n1 c1 : Nat) (x1 : List Nat) (A2 : Option Addr) (n2 c2 : Nat) (x2 : List Nat) (A3 : Option Addr) (n3 : Nat) (c3 : Nat) (x3 : List Nat) (A4 : Option Addr) (n4 c4 : Nat) (x4 : List Nat) (w : World) (hc : c < 256) (h1 : x1.length = n1) (h2 : x2.length = n2) (h3 : x3.length = n3) (h4 : x4.length = n4) (u1 : n1 ≤ 1048576) (u2 : n2 ≤ 1048576) (u3 : n3 ≤ 1048576) (u4 : n4 ≤ 1048576) (r1 : Rd w A1 x1) (r2 : Rd w A2 x2) (r3 : Rd w A3 x3) (r4 : Rd w A4 x4) (b1 : B8 x1) (b2 : B8 x2) (b3 : B8 x3) (b4 : B8 x4) (hne : n2 ≠ n3) :
    Calls Try.prog 8 #[.agg #[.int .u8 (c : Int), .slice A1 n1 c1, .slice A2 n2 c2, .slice A3 n3 c3, .slice A4 n4 c4, .bool false]] w fun e w' => e = .returned (.bool true) ∧ St w w' [] [] := by
  have H1 := Lib.hid h1; have H2 := Lib.hid h2; have H3 := Lib.hid h3; have H4 := Lib.hid h4; have B1 := Lib.hid b1; have B2 := Lib.hid b2; have B3 := Lib.hid b3; have B4 := Lib.hid b4
  have NE := Lib.hid hne
  clear hne
  have HPL : Hid ((x2).length = n2) := Lib.hid (by exact h2)
  have B4' : Hid (B8 (x2)) := Lib.hid (by exact b2)
  have SA := Lib.hid (St.start w)
  go_enter Try.func8, Try.ntmps8
  go_wp2_with ((with_reducible refine at_slot (N := 1) rfl ?_); refine box_law rfl 49 _ _ rfl rfl SA.out ?_; intro ob w0 hs; have SB := Lib.hid hs; clear hs SA; have oc0 := (SB.out.blk mem0).cell (i := 0) rfl; have oc1 := (SB.out.blk mem0).cell (i := 1) rfl; have oc2 := (SB.out.blk mem0).cell (i := 2) rfl; have oc3 := (SB.out.blk mem0).cell (i := 3) rfl; have oc4 := (SB.out.blk mem0).cell (i := 4) rfl; have oc5 := (SB.out.blk mem0).cell (i := 5) rfl; have hob := SB.out.lt mem0; have S0 := Lib.hid (St.start w0))
  have R1 := Lib.hid (SB.out.ext r1); have R2 := Lib.hid (SB.out.ext r2); have R3 := Lib.hid (SB.out.ext r3); have R4 := Lib.hid (SB.out.ext r4)
  clear h1 h2 h3 h4 r1 r2 r3 r4 b1 b2 b3 b4
  obtain ⟨rc0, rf0⟩ := S0.out.rules
  go_wp2_with fail
  clear rc0 rf0
  refine (fixed_st _).mono ?_
  rintro e w1 ⟨rfl, hh⟩
  have h1 := S0.out.call hh; clear hh S0
  try simp only [List.nil_append, List.cons_append, List.append_eq, Int.toNat_natCast] at h1
  have S1 := Lib.hid h1; clear h1
  obtain ⟨rc1, rf1⟩ := S1.out.rules
  go_wp2_with fail
  go_quiet (fail)
  clear rc1 rf1
  have S2 := Lib.hid (S1.out.drewN (n := nq)); clear S1 oc0 oc1 oc2 oc3 oc4 oc5 hob
  go_wp2_with fail
  refine (copied_st H1.out (by omega) (S2.out.ext R1.out)).mono ?_
  rintro e w3 ⟨gb, rfl, hh⟩
  have h3 := S2.out.call hh; clear hh S2
  try simp only [List.nil_append, List.cons_append, List.append_eq, Int.toNat_natCast] at h3
  have S3 := Lib.hid h3; clear h3
  go_wp2_with (first
    | ((with_reducible refine at_slot (N := 36) rfl ?_); refine append_on rfl _ _ rfl gb n1 x1 x1 H1.out (by rw [H1.out]; rfl) S3.out (by rw [H1.out]; exact Nat.le_refl _) (by rw [H1.out]; unfold maxLen; omega) B1.out (by rw [List.take_of_length_le (by rw [H1.out]; exact Nat.le_refl _)]) A2 n2 c2 x2 rfl H2.out (S3.out.ext R2.out) B2.out (by omega) ?_; intro rb1 D1 w4 p1 p2 p3 p4 h4; have P3 := Lib.hid p3; have P4 := Lib.hid p4; clear p3 p4; (try simp only [World.size_alloc, List.nil_append, List.cons_append, List.append_eq] at h4); have S4 := Lib.hid h4; clear h4 S3)
    | ((with_reducible refine at_slot (N := 38) rfl ?_); refine append_on rfl _ _ rfl rb1 (n1 + n2) D1 (x1 ++ x2) (by rw [List.length_append, H1.out, H2.out]) rfl S4.out p1 p2 P3.out P4.out A4 n4 c4 x4 rfl H4.out (S4.out.ext R4.out) B4.out (by omega) ?_; intro rb R w5 q1 q2 q3 q4 h5; have Q3 := Lib.hid q3; have Q4 := Lib.hid q4; clear q3 q4 P3 P4; (try simp only [World.size_alloc, List.nil_append, List.cons_append, List.append_eq] at h5); have S5 := Lib.hid h5; clear h5 S4))
  refine (copied_st H4.out (by omega) (S5.out.ext R4.out)).mono ?_
  rintro e w6 ⟨fb1, rfl, hh⟩
  have h6 := S5.out.call hh; clear hh S5
  try simp only [List.nil_append, List.cons_append, List.append_eq, Int.toNat_natCast] at h6
  have S6 := Lib.hid h6; clear h6
  go_wp2_with (first
    | ((with_reducible refine at_slot (N := 42) rfl ?_); refine append_on rfl _ _ rfl fb1 n4 x4 x4 H4.out (by rw [H4.out]; rfl) S6.out (by rw [H4.out]; exact Nat.le_refl _) (by rw [H4.out]; unfold maxLen; omega) B4.out (by rw [List.take_of_length_le (by rw [H4.out]; exact Nat.le_refl _)]) A3 n3 c3 x3 rfl H3.out (S6.out.ext R3.out) B3.out (by omega) ?_; intro fb2 E1 w7 p1 p2 p3 p4 h7; have P3 := Lib.hid p3; have P4 := Lib.hid p4; clear p3 p4; (try simp only [World.size_alloc, List.nil_append, List.cons_append, List.append_eq] at h7); have S7 := Lib.hid h7; clear h7 S6)
    | ((with_reducible refine at_slot (N := 44) rfl ?_); refine append_on rfl _ _ rfl fb2 (n4 + n3) E1 (x4 ++ x3) (by rw [List.length_append, H4.out, H3.out]) rfl S7.out p1 p2 P3.out P4.out A1 n1 c1 x1 rfl H1.out (S7.out.ext R1.out) B1.out (by omega) ?_; intro fb F w8 f1 f2 f3 f4 h8; have F4 := Lib.hid f4; clear f3 f4 P3 P4; (try simp only [World.size_alloc, List.nil_append, List.cons_append, List.append_eq] at h8); have S8 := Lib.hid h8; clear h8 S7))
  have HFL : Hid ((x4 ++ x3 ++ x1).length = n4 + n3 + n1) := Lib.hid (by rw [List.length_append, List.length_append, H4.out, H3.out, H1.out])
  have HRL : Hid ((x1 ++ (x2) ++ x4).length = n1 + n2 + n4) := Lib.hid (by rw [List.length_append, List.length_append, H1.out, HPL.out, H4.out])
  refine (copied_st HFL.out (by omega) (S8.out.rdTake mem0 F4.out)).mono ?_
  rintro e w9 ⟨ub, rfl, hh⟩
  have h9 := S8.out.call hh; clear hh S8
  try simp only [List.nil_append, List.cons_append, List.append_eq, Int.toNat_natCast] at h9
  have S9 := Lib.hid h9; clear h9
  obtain ⟨M1, hM1⟩ : ∃ M1, n1 + n2 = M1 := ⟨_, rfl⟩
  obtain ⟨M2, hM2⟩ : ∃ M2, n4 + n3 = M2 := ⟨_, rfl⟩
  have e1 : (n1 : Int) + (n2 : Int) = (M1 : Int) := by omega
  have e2 : (n4 : Int) + (n3 : Int) = (M2 : Int) := by omega
  have g1 : M1 - n1 = n2 := by omega
  have g2 : M2 - n4 = n3 := by omega
  have g3 : (M1 : Int) ≤ (R.length : Int) := by omega
  have g4 : (M2 : Int) ≤ (F.length : Int) := by omega
  have g5 : (n1 : Int) ≤ (M1 : Int) := by omega
  have g6 : (n4 : Int) ≤ (M2 : Int) := by omega
  have g7 : M1 ≤ R.length := by omega
  have g8 : M2 ≤ F.length := by omega
  have g9 : n1 ≤ M1 := by omega
  have g10 : n4 ≤ M2 := by omega
  have g11 : (0 : Int) ≤ (n1 : Int) := by omega
  have g12 : (0 : Int) ≤ (n4 : Int) := by omega
  have HG := Lib.hid (And.intro hM1 hM2)
  clear hM1 hM2
  obtain ⟨od, eo, od1, od2⟩ : ∃ od, cutA (some ⟨rb, 0, none⟩) R.length n1 = some ⟨rb, od, none⟩ ∧ od ≤ n1 ∧ (0 < n2 → od = n1) := by
    unfold cutA
    split
    · exact ⟨0, rfl, Nat.zero_le _, fun h => by omega⟩
    · exact ⟨n1, by simp [Addr.add]; omega, Nat.le_refl _, fun _ => rfl⟩
  obtain ⟨og, eg, og1, og2⟩ : ∃ og, cutA (some ⟨fb, 0, none⟩) F.length n4 = some ⟨fb, og, none⟩ ∧ og ≤ n4 ∧ (0 < n3 → og = n4) := by
    unfold cutA
    split
    · exact ⟨0, rfl, Nat.zero_le _, fun h => by omega⟩
    · exact ⟨n4, by simp [Addr.add]; omega, Nat.le_refl _, fun _ => rfl⟩
  have HEO := Lib.hid eo; have HEG := Lib.hid eg; have HOD := Lib.hid (And.intro od1 od2); have HOG := Lib.hid (And.intro og1 og2)
  clear eo eg od1 od2 og1 og2
  have hsz : (Try.prog.info? 5).map (·.size) = some 1 := by kernel_rfl
  have HSZ := Lib.hid hsz
  clear hsz
  go_wp2_with (first
    | ((with_reducible refine at_slot (N := 55) rfl ?_); refine slice_law rfl 22 5 Try.underlying22 HSZ.out _ _ _ rfl (some ⟨rb, 0, none⟩) (n1 + n2 + n4) R.length n1 n2 rfl (n1 : Int) (M1 : Int) (.inr ⟨rfl, rfl⟩) (.inr ⟨rfl, by omega⟩) (by omega) ?_; rw [HEO.out])
    | ((with_reducible refine at_slot (N := 64) rfl ?_); refine slice_law rfl 22 5 Try.underlying22 HSZ.out _ _ _ rfl (some ⟨fb, 0, none⟩) (n4 + n3 + n1) F.length n4 n3 rfl (n4 : Int) (M2 : Int) (.inr ⟨rfl, rfl⟩) (.inr ⟨rfl, by omega⟩) (by omega) ?_; rw [HEG.out]))
  refine (new_st _).mono ?_
  rintro e w10 ⟨k, rfl, hh⟩
  have h10 := S9.out.call hh; clear hh S9
  try simp only [List.nil_append, List.cons_append, List.append_eq, Int.toNat_natCast] at h10
  have S10 := Lib.hid h10; clear h10
  go_wp2_with fail
  refine (mul_lens _ _ _ _ _ _ _ _ _ NE.out).mono ?_
  rintro e _ ⟨rfl, rfl⟩
  go_wp2_with fail
  refine (ref_mul_lens _ _ _ _ _ _ _ x2 _ H2.out (by omega) (S10.out.ext R2.out) B2.out NE.out).mono ?_
  rintro e w11 ⟨A11, c11, m11, G11, hm11, rfl, hs, hg⟩
  obtain rfl : n2 = m11 := by rw [hm11]; exact (HPL.out).symm
  clear hm11
  have h11 := S10.out.callR hs; have HG11 := Lib.hid hg; clear hs hg S10
  try simp only [List.nil_append, List.cons_append, List.append_eq, List.append_nil, Int.toNat_natCast] at h11
  have S11 := Lib.hid h11; clear h11
  go_wp2_with fail
  refine (copied_st H1.out (by omega) (S11.out.ext R1.out)).mono ?_
  rintro e w12 ⟨wb0, rfl, hh⟩
  have h12 := S11.out.call hh; clear hh S11
  try simp only [List.nil_append, List.cons_append, List.append_eq, Int.toNat_natCast] at h12
  have S12 := Lib.hid h12; clear h12
  go_wp2_with (first
    | ((with_reducible refine at_slot (N := 96) rfl ?_); refine append_on rfl _ _ rfl wb0 n1 x1 x1 H1.out (by rw [H1.out]; rfl) S12.out (by rw [H1.out]; exact Nat.le_refl _) (by rw [H1.out]; unfold maxLen; omega) B1.out (by rw [List.take_of_length_le (by rw [H1.out]; exact Nat.le_refl _)]) A11 n2 c11 (x2) rfl HPL.out (HG11.out.read S12.out (fun e he => by simp [he])) B4'.out (by omega) ?_; intro wb1 W1 w13 p1 p2 p3 p4 h13; have P3 := Lib.hid p3; have P4 := Lib.hid p4; clear p3 p4; (try simp only [World.size_alloc, List.nil_append, List.cons_append, List.append_eq] at h13); have S13 := Lib.hid h13; clear h13 S12)
    | ((with_reducible refine at_slot (N := 98) rfl ?_); refine append_on rfl _ _ rfl wb1 (n1 + n2) W1 (x1 ++ (x2)) (by rw [List.length_append, H1.out, HPL.out]) rfl S13.out p1 p2 P3.out P4.out A4 n4 c4 x4 rfl H4.out (S13.out.ext R4.out) B4.out (by omega) ?_; intro wb WW w14 o1 o2 o3 o4 h14; have O4 := Lib.hid o4; clear o3 o4 P3 P4; (try simp only [World.size_alloc, List.nil_append, List.cons_append, List.append_eq] at h14); have S14 := Lib.hid h14; clear h14 S13))
  refine (equal_st HRL.out (by omega) (S14.out.rdTake (b := rb) (t := 5) (D := R) (by simp) (by exact Q4.out)) (S14.out.rdTake mem0 O4.out)).mono ?_
  rintro e w15 ⟨rfl, hh⟩
  have h15 := S14.out.call hh; clear hh S14
  try simp only [List.nil_append, List.cons_append, List.append_eq, Int.toNat_natCast] at h15
  have S15 := Lib.hid h15; clear h15
  go_wp2_with fail
  refine (equal_st HFL.out (by omega) (S15.out.rdTake (b := fb) (t := 5) (D := F) (by simp) F4.out) (S15.out.rd (b := ub) (t := 5) (by simp))).mono ?_
  rintro e w16 ⟨rfl, hh⟩
  have h16 := S15.out.call hh; clear hh S15
  try simp only [List.nil_append, List.cons_append, List.append_eq, Int.toNat_natCast] at h16
  have S16 := Lib.hid h16; clear h16
  go_wp2_with fail
  go_ret
  exact ⟨rfl, (SB.out.call S16.out).nil⟩

set_option maxRecDepth 100000 in
set_option maxHeartbeats 4000000 in
theorem room_add_ne (c : Nat) (A1 : Option Addr) (n1 c1 : Nat) (x1 : List Nat) (A2 : Option Addr) (n2 c2 : Nat) (x2 : List Nat) (A3 : Option Addr) (n3 : Nat) (c3 : Nat) (x3 : List Nat) (A4 : Option Addr) (n4 c4 : Nat) (x4 : List Nat) (w : World) (hc : c < 256) (h1 : x1.length = n1) (h2 : x2.length = n2) (h3 : x3.length = n3) (h4 : x4.length = n4) (u1 : n1 ≤ 1048576) (u2 : n2 ≤ 1048576) (u3 : n3 ≤ 1048576) (u4 : n4 ≤ 1048576) (r1 : Rd w A1 x1) (r2 : Rd w A2 x2) (r3 : Rd w A3 x3) (r4 : Rd w A4 x4) (b1 : B8 x1) (b2 : B8 x2) (b3 : B8 x3) (b4 : B8 x4) (hne : n2 ≠ n3) :
    Calls Try.prog 8 #[.agg #[.int .u8 (c : Int), .slice A1 n1 c1, .slice A2 n2 c2, .slice A3 n3 c3, .slice A4 n4 c4, .bool true]] w fun e w' => e = .returned (.bool true) ∧ St w w' [] [] := by
  have H1 := Lib.hid h1; have H2 := Lib.hid h2; have H3 := Lib.hid h3; have H4 := Lib.hid h4; have B1 := Lib.hid b1; have B2 := Lib.hid b2; have B3 := Lib.hid b3; have B4 := Lib.hid b4
  have NE := Lib.hid hne
  clear hne
  have HPL : Hid ((x2).length = n2) := Lib.hid (by exact h2)
  have B4' : Hid (B8 (x2)) := Lib.hid (by exact b2)
  have SA := Lib.hid (St.start w)
  go_enter Try.func8, Try.ntmps8
  go_wp2_with ((with_reducible refine at_slot (N := 1) rfl ?_); refine box_law rfl 49 _ _ rfl rfl SA.out ?_; intro ob w0 hs; have SB := Lib.hid hs; clear hs SA; have oc0 := (SB.out.blk mem0).cell (i := 0) rfl; have oc1 := (SB.out.blk mem0).cell (i := 1) rfl; have oc2 := (SB.out.blk mem0).cell (i := 2) rfl; have oc3 := (SB.out.blk mem0).cell (i := 3) rfl; have oc4 := (SB.out.blk mem0).cell (i := 4) rfl; have oc5 := (SB.out.blk mem0).cell (i := 5) rfl; have hob := SB.out.lt mem0; have S0 := Lib.hid (St.start w0))
  have R1 := Lib.hid (SB.out.ext r1); have R2 := Lib.hid (SB.out.ext r2); have R3 := Lib.hid (SB.out.ext r3); have R4 := Lib.hid (SB.out.ext r4)
  clear h1 h2 h3 h4 r1 r2 r3 r4 b1 b2 b3 b4
  obtain ⟨rc0, rf0⟩ := S0.out.rules
  go_wp2_with fail
  clear rc0 rf0
  refine (fixed_st _).mono ?_
  rintro e w1 ⟨rfl, hh⟩
  have h1 := S0.out.call hh; clear hh S0
  try simp only [List.nil_append, List.cons_append, List.append_eq, Int.toNat_natCast] at h1
  have S1 := Lib.hid h1; clear h1
  obtain ⟨rc1, rf1⟩ := S1.out.rules
  go_wp2_with fail
  go_quiet (fail)
  clear rc1 rf1
  have S2 := Lib.hid (S1.out.drewN (n := nq)); clear S1 oc0 oc1 oc2 oc3 oc4 oc5 hob
  go_wp2_with fail
  refine (copied_st H1.out (by omega) (S2.out.ext R1.out)).mono ?_
  rintro e w3 ⟨gb, rfl, hh⟩
  have h3 := S2.out.call hh; clear hh S2
  try simp only [List.nil_append, List.cons_append, List.append_eq, Int.toNat_natCast] at h3
  have S3 := Lib.hid h3; clear h3
  go_wp2_with (first
    | ((with_reducible refine at_slot (N := 36) rfl ?_); refine append_on rfl _ _ rfl gb n1 x1 x1 H1.out (by rw [H1.out]; rfl) S3.out (by rw [H1.out]; exact Nat.le_refl _) (by rw [H1.out]; unfold maxLen; omega) B1.out (by rw [List.take_of_length_le (by rw [H1.out]; exact Nat.le_refl _)]) A2 n2 c2 x2 rfl H2.out (S3.out.ext R2.out) B2.out (by omega) ?_; intro rb1 D1 w4 p1 p2 p3 p4 h4; have P3 := Lib.hid p3; have P4 := Lib.hid p4; clear p3 p4; (try simp only [World.size_alloc, List.nil_append, List.cons_append, List.append_eq] at h4); have S4 := Lib.hid h4; clear h4 S3)
    | ((with_reducible refine at_slot (N := 38) rfl ?_); refine append_on rfl _ _ rfl rb1 (n1 + n2) D1 (x1 ++ x2) (by rw [List.length_append, H1.out, H2.out]) rfl S4.out p1 p2 P3.out P4.out A4 n4 c4 x4 rfl H4.out (S4.out.ext R4.out) B4.out (by omega) ?_; intro rb R w5 q1 q2 q3 q4 h5; have Q3 := Lib.hid q3; have Q4 := Lib.hid q4; clear q3 q4 P3 P4; (try simp only [World.size_alloc, List.nil_append, List.cons_append, List.append_eq] at h5); have S5 := Lib.hid h5; clear h5 S4))
  refine (copied_st H4.out (by omega) (S5.out.ext R4.out)).mono ?_
  rintro e w6 ⟨fb1, rfl, hh⟩
  have h6 := S5.out.call hh; clear hh S5
  try simp only [List.nil_append, List.cons_append, List.append_eq, Int.toNat_natCast] at h6
  have S6 := Lib.hid h6; clear h6
  go_wp2_with (first
    | ((with_reducible refine at_slot (N := 42) rfl ?_); refine append_on rfl _ _ rfl fb1 n4 x4 x4 H4.out (by rw [H4.out]; rfl) S6.out (by rw [H4.out]; exact Nat.le_refl _) (by rw [H4.out]; unfold maxLen; omega) B4.out (by rw [List.take_of_length_le (by rw [H4.out]; exact Nat.le_refl _)]) A3 n3 c3 x3 rfl H3.out (S6.out.ext R3.out) B3.out (by omega) ?_; intro fb2 E1 w7 p1 p2 p3 p4 h7; have P3 := Lib.hid p3; have P4 := Lib.hid p4; clear p3 p4; (try simp only [World.size_alloc, List.nil_append, List.cons_append, List.append_eq] at h7); have S7 := Lib.hid h7; clear h7 S6)
    | ((with_reducible refine at_slot (N := 44) rfl ?_); refine append_on rfl _ _ rfl fb2 (n4 + n3) E1 (x4 ++ x3) (by rw [List.length_append, H4.out, H3.out]) rfl S7.out p1 p2 P3.out P4.out A1 n1 c1 x1 rfl H1.out (S7.out.ext R1.out) B1.out (by omega) ?_; intro fb F w8 f1 f2 f3 f4 h8; have F4 := Lib.hid f4; clear f3 f4 P3 P4; (try simp only [World.size_alloc, List.nil_append, List.cons_append, List.append_eq] at h8); have S8 := Lib.hid h8; clear h8 S7))
  have HFL : Hid ((x4 ++ x3 ++ x1).length = n4 + n3 + n1) := Lib.hid (by rw [List.length_append, List.length_append, H4.out, H3.out, H1.out])
  have HRL : Hid ((x1 ++ (x2) ++ x4).length = n1 + n2 + n4) := Lib.hid (by rw [List.length_append, List.length_append, H1.out, HPL.out, H4.out])
  refine (copied_st HFL.out (by omega) (S8.out.rdTake mem0 F4.out)).mono ?_
  rintro e w9 ⟨ub, rfl, hh⟩
  have h9 := S8.out.call hh; clear hh S8
  try simp only [List.nil_append, List.cons_append, List.append_eq, Int.toNat_natCast] at h9
  have S9 := Lib.hid h9; clear h9
  obtain ⟨M1, hM1⟩ : ∃ M1, n1 + n2 = M1 := ⟨_, rfl⟩
  obtain ⟨M2, hM2⟩ : ∃ M2, n4 + n3 = M2 := ⟨_, rfl⟩
  have e1 : (n1 : Int) + (n2 : Int) = (M1 : Int) := by omega
  have e2 : (n4 : Int) + (n3 : Int) = (M2 : Int) := by omega
  have g1 : M1 - n1 = n2 := by omega
  have g2 : M2 - n4 = n3 := by omega
  have g3 : (M1 : Int) ≤ (R.length : Int) := by omega
  have g4 : (M2 : Int) ≤ (F.length : Int) := by omega
  have g5 : (n1 : Int) ≤ (M1 : Int) := by omega
  have g6 : (n4 : Int) ≤ (M2 : Int) := by omega
  have g7 : M1 ≤ R.length := by omega
  have g8 : M2 ≤ F.length := by omega
  have g9 : n1 ≤ M1 := by omega
  have g10 : n4 ≤ M2 := by omega
  have g11 : (0 : Int) ≤ (n1 : Int) := by omega
  have g12 : (0 : Int) ≤ (n4 : Int) := by omega
  have HG := Lib.hid (And.intro hM1 hM2)
  clear hM1 hM2
  obtain ⟨od, eo, od1, od2⟩ : ∃ od, cutA (some ⟨rb, 0, none⟩) R.length n1 = some ⟨rb, od, none⟩ ∧ od ≤ n1 ∧ (0 < n2 → od = n1) := by
    unfold cutA
    split
    · exact ⟨0, rfl, Nat.zero_le _, fun h => by omega⟩
    · exact ⟨n1, by simp [Addr.add]; omega, Nat.le_refl _, fun _ => rfl⟩
  obtain ⟨og, eg, og1, og2⟩ : ∃ og, cutA (some ⟨fb, 0, none⟩) F.length n4 = some ⟨fb, og, none⟩ ∧ og ≤ n4 ∧ (0 < n3 → og = n4) := by
    unfold cutA
    split
    · exact ⟨0, rfl, Nat.zero_le _, fun h => by omega⟩
    · exact ⟨n4, by simp [Addr.add]; omega, Nat.le_refl _, fun _ => rfl⟩
  have HEO := Lib.hid eo; have HEG := Lib.hid eg; have HOD := Lib.hid (And.intro od1 od2); have HOG := Lib.hid (And.intro og1 og2)
  clear eo eg od1 od2 og1 og2
  have hsz : (Try.prog.info? 5).map (·.size) = some 1 := by kernel_rfl
  have HSZ := Lib.hid hsz
  clear hsz
  go_wp2_with (first
    | ((with_reducible refine at_slot (N := 55) rfl ?_); refine slice_law rfl 22 5 Try.underlying22 HSZ.out _ _ _ rfl (some ⟨rb, 0, none⟩) (n1 + n2 + n4) R.length n1 n2 rfl (n1 : Int) (M1 : Int) (.inr ⟨rfl, rfl⟩) (.inr ⟨rfl, by omega⟩) (by omega) ?_; rw [HEO.out])
    | ((with_reducible refine at_slot (N := 64) rfl ?_); refine slice_law rfl 22 5 Try.underlying22 HSZ.out _ _ _ rfl (some ⟨fb, 0, none⟩) (n4 + n3 + n1) F.length n4 n3 rfl (n4 : Int) (M2 : Int) (.inr ⟨rfl, rfl⟩) (.inr ⟨rfl, by omega⟩) (by omega) ?_; rw [HEG.out]))
  refine (new_st _).mono ?_
  rintro e w10 ⟨k, rfl, hh⟩
  have h10 := S9.out.call hh; clear hh S9
  try simp only [List.nil_append, List.cons_append, List.append_eq, Int.toNat_natCast] at h10
  have S10 := Lib.hid h10; clear h10
  go_wp2_with fail
  refine (add_lens _ _ _ _ _ _ _ _ _ NE.out).mono ?_
  rintro e _ ⟨rfl, rfl⟩
  go_wp2_with fail
  refine (ref_add_lens _ _ _ _ _ _ _ x2 _ H2.out (by omega) (S10.out.ext R2.out) B2.out NE.out).mono ?_
  rintro e w11 ⟨A11, c11, m11, G11, hm11, rfl, hs, hg⟩
  obtain rfl : n2 = m11 := by rw [hm11]; exact (HPL.out).symm
  clear hm11
  have h11 := S10.out.callR hs; have HG11 := Lib.hid hg; clear hs hg S10
  try simp only [List.nil_append, List.cons_append, List.append_eq, List.append_nil, Int.toNat_natCast] at h11
  have S11 := Lib.hid h11; clear h11
  go_wp2_with fail
  refine (copied_st H1.out (by omega) (S11.out.ext R1.out)).mono ?_
  rintro e w12 ⟨wb0, rfl, hh⟩
  have h12 := S11.out.call hh; clear hh S11
  try simp only [List.nil_append, List.cons_append, List.append_eq, Int.toNat_natCast] at h12
  have S12 := Lib.hid h12; clear h12
  go_wp2_with (first
    | ((with_reducible refine at_slot (N := 96) rfl ?_); refine append_on rfl _ _ rfl wb0 n1 x1 x1 H1.out (by rw [H1.out]; rfl) S12.out (by rw [H1.out]; exact Nat.le_refl _) (by rw [H1.out]; unfold maxLen; omega) B1.out (by rw [List.take_of_length_le (by rw [H1.out]; exact Nat.le_refl _)]) A11 n2 c11 (x2) rfl HPL.out (HG11.out.read S12.out (fun e he => by simp [he])) B4'.out (by omega) ?_; intro wb1 W1 w13 p1 p2 p3 p4 h13; have P3 := Lib.hid p3; have P4 := Lib.hid p4; clear p3 p4; (try simp only [World.size_alloc, List.nil_append, List.cons_append, List.append_eq] at h13); have S13 := Lib.hid h13; clear h13 S12)
    | ((with_reducible refine at_slot (N := 98) rfl ?_); refine append_on rfl _ _ rfl wb1 (n1 + n2) W1 (x1 ++ (x2)) (by rw [List.length_append, H1.out, HPL.out]) rfl S13.out p1 p2 P3.out P4.out A4 n4 c4 x4 rfl H4.out (S13.out.ext R4.out) B4.out (by omega) ?_; intro wb WW w14 o1 o2 o3 o4 h14; have O4 := Lib.hid o4; clear o3 o4 P3 P4; (try simp only [World.size_alloc, List.nil_append, List.cons_append, List.append_eq] at h14); have S14 := Lib.hid h14; clear h14 S13))
  refine (equal_st HRL.out (by omega) (S14.out.rdTake (b := rb) (t := 5) (D := R) (by simp) (by exact Q4.out)) (S14.out.rdTake mem0 O4.out)).mono ?_
  rintro e w15 ⟨rfl, hh⟩
  have h15 := S14.out.call hh; clear hh S14
  try simp only [List.nil_append, List.cons_append, List.append_eq, Int.toNat_natCast] at h15
  have S15 := Lib.hid h15; clear h15
  go_wp2_with fail
  refine (equal_st HFL.out (by omega) (S15.out.rdTake (b := fb) (t := 5) (D := F) (by simp) F4.out) (S15.out.rd (b := ub) (t := 5) (by simp))).mono ?_
  rintro e w16 ⟨rfl, hh⟩
  have h16 := S15.out.call hh; clear hh S15
  try simp only [List.nil_append, List.cons_append, List.append_eq, Int.toNat_natCast] at h16
  have S16 := Lib.hid h16; clear h16
  go_wp2_with fail
  go_ret
  exact ⟨rfl, (SB.out.call S16.out).nil⟩

abbrev TR := Nat × List Nat × List Nat × List Nat × List Nat × Bool × Unit
abbrev kSlU : Kk.K (List Nat) := Ku.kSliceU Kk.kByte 1
abbrev kRoom : Kk.K TR := Kk.kPair Kk.kByte (Kk.kPair kSlU (Kk.kPair kSlU (Kk.kPair kSlU (Kk.kPair kSlU (Kk.kPair Kk.kBool Kk.kUnit)))))
theorem opens_room : Ku.OpensU Try.prog 49 kRoom :=
  Ku.opensU_struct Try.underlying49 (by kernel_rfl)
    (Ku.opensFsU_cons rfl (Ku.opensU_byte Try.underlying5 (by kernel_rfl)) (Ku.opensFsU_cons rfl (Ku.opensU_slice Try.underlying22 rfl (by decide) (by decide) (Ku.opensU_byte Try.underlying5 rfl)) (Ku.opensFsU_cons rfl (Ku.opensU_slice Try.underlying22 rfl (by decide) (by decide) (Ku.opensU_byte Try.underlying5 rfl)) (Ku.opensFsU_cons rfl (Ku.opensU_slice Try.underlying22 rfl (by decide) (by decide) (Ku.opensU_byte Try.underlying5 rfl)) (Ku.opensFsU_cons rfl (Ku.opensU_slice Try.underlying22 rfl (by decide) (by decide) (Ku.opensU_byte Try.underlying5 rfl)) (Ku.opensFsU_cons rfl (Ku.opensU_bool Try.underlying4 (by kernel_rfl)) Ku.opensFsU_nil))))))
theorem okWide_str {P : Program} {w : World} {r : Reach} {base : Nat} {t : TypeId} {fs : Array Field} {v : Value} (ht : P.underlying t = some (.struct fs)) (h : Value.okWide P w r base t v) : ∃ cs, v = .agg cs := by
  simp only [Value.okWide, ht] at h
  obtain ⟨cs, h1, _⟩ := h
  exact ⟨cs, h1⟩
theorem room_walk (cs : Array Value) (x : TR) (w : World) (h : kRoom.ok w.heap.size w cs.toList x) :
    Calls Try.prog 8 #[.agg cs] w fun e w' => e = .returned (.bool true) ∧ Below w.heap.size w w' := by
  obtain ⟨c1, _, ecs, _, ⟨rfl, hc⟩, c2, _, rfl, _, ⟨h2, u2⟩, c3, _, rfl, _, ⟨h3, u3⟩, c4, _, rfl, _, ⟨h4, u4⟩, c5, _, rfl, _, ⟨h5, u5⟩, c6, _, rfl, _, h6, h7⟩ := h
  have h6' : _ = [Value.bool x.2.2.2.2.2.1] := h6
  have h7' : _ = [] := h7
  subst h6' h7'
  obtain ⟨A1, k1, e1, hh1⟩ := h2
  obtain ⟨A2, k2, e2, hh2⟩ := h3
  obtain ⟨A3, k3, e3, hh3⟩ := h4
  obtain ⟨A4, k4, e4, hh4⟩ := h5
  subst e1 e2 e3 e4
  obtain ⟨a1, _, _, a4, a5, _⟩ := open_bytes (l := x.2.1) (n := x.2.1.length) (c := k1) (A := A1) (w := w) ⟨A1, k1, rfl, hh1⟩
  obtain ⟨b1, _, _, b4, b5, _⟩ := open_bytes (l := x.2.2.1) (n := x.2.2.1.length) (c := k2) (A := A2) (w := w) ⟨A2, k2, rfl, hh2⟩
  obtain ⟨d1, _, _, d4, d5, _⟩ := open_bytes (l := x.2.2.2.1) (n := x.2.2.2.1.length) (c := k3) (A := A3) (w := w) ⟨A3, k3, rfl, hh3⟩
  obtain ⟨f1, _, _, f4, f5, _⟩ := open_bytes (l := x.2.2.2.2.1) (n := x.2.2.2.2.1.length) (c := k4) (A := A4) (w := w) ⟨A4, k4, rfl, hh4⟩
  obtain ⟨c, x1, x2, x3, x4, add, _⟩ := x
  simp only at *
  have ec : cs = #[.int .u8 (c : Int), .slice A1 x1.length k1, .slice A2 x2.length k2, .slice A3 x3.length k3, .slice A4 x4.length k4, .bool add] := by
    rw [← Array.toArray_toList (xs := cs), ecs]; rfl
  subst ec
  by_cases hn : x3.length = x2.length
  · rw [hn]
    cases add with
    | true => exact (room_add c A1 _ k1 x1 A2 _ k2 x2 A3 k3 x3 A4 _ k4 x4 w hc rfl rfl hn rfl u2 u3 u3 u5 a4 b4 d4 f4 a5 b5 d5 f5).mono fun _ _ ⟨h, hs⟩ => ⟨h, hs.below⟩
    | false => exact (room_mul c A1 _ k1 x1 A2 _ k2 x2 A3 k3 x3 A4 _ k4 x4 w hc rfl rfl hn rfl u2 u3 u3 u5 a4 b4 d4 f4 a5 b5 d5 f5).mono fun _ _ ⟨h, hs⟩ => ⟨h, hs.below⟩
  · cases add with
    | true => exact (room_add_ne c A1 _ k1 x1 A2 _ k2 x2 A3 _ k3 x3 A4 _ k4 x4 w hc rfl rfl rfl rfl u2 u3 u4 u5 a4 b4 d4 f4 a5 b5 d5 f5 (fun e => hn e.symm)).mono fun _ _ ⟨h, hs⟩ => ⟨h, hs.below⟩
    | false => exact (room_mul_ne c A1 _ k1 x1 A2 _ k2 x2 A3 _ k3 x3 A4 _ k4 x4 w hc rfl rfl rfl rfl u2 u3 u4 u5 a4 b4 d4 f4 a5 b5 d5 f5 (fun e => hn e.symm)).mono fun _ _ ⟨h, hs⟩ => ⟨h, hs.below⟩

end Go.Proofs.Ythfenafhdigniaa.L6
