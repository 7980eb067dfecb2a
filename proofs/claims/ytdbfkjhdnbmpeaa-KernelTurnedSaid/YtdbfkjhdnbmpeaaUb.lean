/- Layer 9: the law KernelTurned: anew (printed by gen/mk_tn.py). -/
import Derived.Test.YtdbfkjhdnbmpeaaUa
namespace Go.Proofs.Ytdbfkjhdnbmpeaa.Sk
set_option linter.unusedSimpArgs false
set_option linter.unusedVariables false
open Go Go.RowKit Go.Proofs.Ytdbfkjhdnbmpeaa Go.Proofs.Ytdbfkjhdnbmpeaa.Mm Go.Proofs.Ytdbfkjhdnbmpeaa.Gf Go.Proofs.Ytdbfkjhdnbmpeaa.Wr Go.Proofs.Ytdbfkjhdnbmpeaa.Nb Go.Proofs.Ytdbfkjhdnbmpeaa.St

/-- What rows are turned by. -/
def g1 (nd i q x : Nat) : Nat := x ^^^ (q + i + nd) % 256
/-- What slices are turned by. -/
def g2 (diff : List Nat) (i q x : Nat) : Nat := if q < diff.length then x ^^^ (diff.getD q 0 + i) % 256 else x
theorem g1_lt (nd i q x : Nat) (h : x < 256) : g1 nd i q x < 256 := Nat.xor_lt_two_pow (n := 8) h (Nat.mod_lt _ (by decide))
theorem g2_lt (diff : List Nat) (i q x : Nat) (h : x < 256) : g2 diff i q x < 256 := by
  unfold g2; split
  · exact Nat.xor_lt_two_pow (n := 8) h (Nat.mod_lt _ (by decide))
  · exact h

set_option maxRecDepth 100000 in
set_option maxHeartbeats 8000000 in
theorem anew_st {p j : Nat} {S K : List Ent} {w0 w : World} {A1 A2 A3 Ad : Option Addr} {n1 n2 n3 nd c1 c2 c3 cd : Nat} {f t u : Int} {rows srcs dsts : List (List Nat)} {diff : List Nat} (hSE : SetE p j S) (h : St w0 w [] K) (hSK : ∀ e ∈ S, e ∈ K) (l1 : rows.length = n1) (l2 : srcs.length = n2) (l3 : dsts.length = n3) (ld : diff.length = nd) (ud : nd ≤ 140737488351232) (r1 : RdL w0 [] A1 rows) (f1 : Fit rows) (b1 : B8L rows) (r2 : RdL w0 [] A2 srcs) (f2 : Fit srcs) (b2 : B8L srcs) (r3 : RdL w0 [] A3 dsts) (f3 : Fit dsts) (b3 : B8L dsts) (rd : Rd w0 Ad diff) (bd : B8 diff) :
    Calls Try.prog 21 #[.pointer (some ⟨p, 0, none⟩), .agg (sumsC A1 A2 A3 n1 n2 n3 c1 c2 c3 f t u), .slice Ad nd cd] w fun e w' => e = .returned (.bool true) ∧ St w0 w' [] K := by
  have S0 := Lib.hid h; have SE := Lib.hid hSE; have SK := Lib.hid hSK; have L1 := Lib.hid l1; have L2 := Lib.hid l2; have L3 := Lib.hid l3; have LD := Lib.hid ld; have R1 := Lib.hid r1; have R2 := Lib.hid r2; have R3 := Lib.hid r3; have RD := Lib.hid rd; have F1 := Lib.hid f1; have F2 := Lib.hid f2; have F3 := Lib.hid f3; have B1 := Lib.hid b1; have B2 := Lib.hid b2; have B3 := Lib.hid b3; have BD := Lib.hid bd
  have un1 : n1 ≤ 140737488351232 := by have := f1.1; omega
  have un2 : n2 ≤ 140737488351232 := by have := f2.1; omega
  clear h hSE hSK l1 l2 l3 ld r1 r2 r3 rd f1 f2 f3 b1 b2 b3 bd
  go_enter Try.func21, Try.ntmps21
  go_wp2_with ((with_reducible refine at_slot (N := 4) rfl ?_); refine box_law rfl _ _ (sumsC A1 A2 A3 n1 n2 n3 c1 c2 c3 f t u) rfl rfl S0.out ?_; intro xb w1 h1; obtain ⟨z0, z1, z2, z3, z4, z5⟩ := sums_cells h1 mem0; (try simp only [World.size_alloc, List.nil_append, List.cons_append, List.append_eq] at h1); have S1 := Lib.hid h1; clear h1 S0)
  clear z0 z1 z2 z3 z4 z5
  have S2 := Lib.hid (S1.out.alloc 32 #[.int .i64 f, .int .i64 t]); clear S1
  generalize w1.heap.size = sb at *
  generalize w1.alloc (.cells #[.int .i64 f, .int .i64 t] 32 (0, 0)) = w2 at *
  obtain ⟨KX, HKX⟩ : ∃ KX, Hid ((⟨sb, 32, #[.int .i64 f, .int .i64 t]⟩ : Ent) :: ⟨xb, 24, sumsC A1 A2 A3 n1 n2 n3 c1 c2 c3 f t u⟩ :: K = KX) := ⟨_, Lib.hid rfl⟩
  rw [HKX.out] at S2
  have HC : Hid (∀ (w' : World) (N' : List Ent), St w0 w' [] N' → (∀ e ∈ KX, e ∈ N') → w'.cell? ⟨xb, 0, none⟩ = some (.slice A1 n1 c1) ∧ w'.cell? ⟨xb, 1, none⟩ = some (.slice A2 n2 c2) ∧ w'.cell? ⟨xb, 2, none⟩ = some (.slice A3 n3 c3) ∧ w'.cell? ⟨sb, 0, none⟩ = some (.int .i64 f) ∧ w'.cell? ⟨sb, 1, none⟩ = some (.int .i64 t)) := Lib.hid (fun w' N' hs hm => by
    have m1 : (⟨sb, 32, #[.int .i64 f, .int .i64 t]⟩ : Ent) ∈ N' := hm _ (by rw [← HKX.out]; simp)
    obtain ⟨g0, g1, g2, _⟩ := sums_cells hs (hm ⟨xb, 24, sumsC A1 A2 A3 n1 n2 n3 c1 c2 c3 f t u⟩ (by rw [← HKX.out]; simp))
    exact ⟨g0, g1, g2, (hs.blk m1).cell (i := 0) rfl, (hs.blk m1).cell (i := 1) rfl⟩)
  have HCS : Hid (∀ (w' : World) (N' : List Ent), St w0 w' [] N' → (∀ e ∈ KX, e ∈ N') → w'.cell? ⟨sb, 0, none⟩ = some (.int .i64 f) ∧ w'.cell? ⟨sb, 1, none⟩ = some (.int .i64 t)) := Lib.hid (fun w' N' hs hm => ⟨(HC.out w' N' hs hm).2.2.2.1, (HC.out w' N' hs hm).2.2.2.2⟩)
  have SMK : Hid (∀ e ∈ S, e ∈ KX) := Lib.hid (fun e he => by rw [← HKX.out]; simp [SK.out e he])
  have HKS : Hid (K.Sublist KX) := Lib.hid (by rw [← HKX.out]; exact (List.sublist_cons_self _ _).trans (List.sublist_cons_self _ _))
  clear HKX SK
  obtain ⟨E, HE⟩ : ∃ E, Hid (fitsE rows srcs dsts f t = E) := ⟨_, Lib.hid rfl⟩
  obtain ⟨T1, HT1⟩ : ∃ Y, Hid (appE rows srcs dsts f t = Y) := ⟨_, Lib.hid rfl⟩
  have T1L : Hid (T1.map (·.length) = dsts.map (·.length)) := Lib.hid (by rw [← HT1.out]; exact appE_len)
  have T18 : Hid (B8L T1) := Lib.hid (by rw [← HT1.out]; exact appE_b8 B1.out B3.out)
  have T1F := Lib.hid (F3.out.len T1L.out)
  have HE1 : Hid (fitsE rows srcs T1 f t = E) := Lib.hid (by rw [fitsE_congr T1L.out, HE.out])
  obtain ⟨B, HB⟩ : ∃ B, Hid (agrE rows srcs T1 f t = B) := ⟨_, Lib.hid rfl⟩
  have HBE : Hid (B = decide (E = 0)) := Lib.hid (by
    rw [← HB.out]
    by_cases h0 : E = 0
    · rw [decide_eq_true h0, ← HT1.out]; exact agr_app (by rw [HE.out]; exact h0)
    · rw [decide_eq_false h0]; exact agr_no (by rw [HE1.out]; exact h0))
  have S3 := Lib.hid S2.out.drew; clear S2
  go_region_held3 (fun w' => w'.cell? ⟨xb, 0, none⟩ = some (.slice A1 n1 c1) ∧ w'.cell? ⟨xb, 1, none⟩ = some (.slice A2 n2 c2) ∧ w'.cell? ⟨xb, 2, none⟩ = some (.slice A3 n3 c3) ∧ w'.cell? ⟨sb, 0, none⟩ = some (.int .i64 f) ∧ w'.cell? ⟨sb, 1, none⟩ = some (.int .i64 t)) (first | exact HC.out _ _ S3.out (by intro e he; simp [he]) | exact HC.out _ _ S4.out (by intro e he; simp [he]) | exact HC.out _ _ S5.out (by intro e he; simp [he]) | exact HC.out _ _ S6.out (by intro e he; simp [he]) | exact HC.out _ _ S7.out (by intro e he; simp [he]) | exact HC.out _ _ S8.out (by intro e he; simp [he]) | exact HC.out _ _ S9.out (by intro e he; simp [he]) | exact HC.out _ _ S10.out (by intro e he; simp [he]) | exact HC.out _ _ S11.out (by intro e he; simp [he]) | go_keep) (first
    | (go_at_call 13; (with_reducible refine (copies_st L1.out F1.out (S3.out.extL R1.out)).mono ?_); rintro e w4 ⟨AR, cR, bsR, GR, rfl, hc, hh⟩; have K4 := Lib.hid hh; have C4 := Lib.hid hc; clear hc; have h4 := S3.out.call hh; clear hh; (try simp only [List.nil_append, List.cons_append, List.append_eq, Int.toNat_natCast] at h4); have S4 := Lib.hid h4; clear h4)
    | (go_at_call 13; (with_reducible refine (copies_st L2.out F2.out (S4.out.extL R2.out)).mono ?_); rintro e w5 ⟨AS, cS, bsS, GS, rfl, hc, hh⟩; have K5 := Lib.hid hh; have C5 := Lib.hid hc; clear hc; have h5 := S4.out.call hh; clear hh S4; (try simp only [List.nil_append, List.cons_append, List.append_eq, Int.toNat_natCast] at h5); have S5 := Lib.hid h5; clear h5)
    | (go_at_call 13; (with_reducible refine (copies_st L3.out F3.out (S5.out.extL R3.out)).mono ?_); rintro e w6 ⟨AT, cT, bsT, GT, rfl, hc, hh⟩; have K6 := Lib.hid hh; have C6 := Lib.hid hc; clear hc; have h6 := S5.out.call hh; clear hh S5; (try simp only [List.nil_append, List.cons_append, List.append_eq, Int.toNat_natCast] at h6); have S6 := Lib.hid h6; clear h6))
  have S7 : Hid (St w0 w6 [] (tX GR bsR rows GS bsS srcs GT bsT dsts KX)) := Lib.hid (by simpa only [tX, List.append_assoc] using S6.out)
  have CR := C4; have CS := C5; have CT := C6
  clear S3 S6 K4 K5 K6 C4 C5 C6 R1 R2 R3
  have CT1 := Lib.hid (CT.out.len T1L.out)
  have S8 := S7; clear S7
  obtain ⟨-, -, -, y0, y1⟩ := HC.out _ _ S8.out (fun e he => by simp [he])
  go_wp2_with fail
  refine (tn_app (w := w6) (Z := []) (f := f) (t := t) SE.out S8.out SMK.out CR.out CS.out CT.out F1.out F2.out F3.out B1.out B2.out B3.out).mono ?_
  rintro e w9 ⟨rfl, hh⟩
  simp only [HE.out]; rw [HT1.out, List.nil_append] at hh; clear y0 y1; obtain ⟨-, -, -, y0, y1⟩ := HC.out _ _ hh (fun e he => by simp [he])
  have S9 := Lib.hid hh; clear hh S8
  go_wp2_with fail
  refine (tn_agr (f := f) (t := t) SE.out S9.out (fun e he => by simp [SMK.out e he]) CR.out CS.out CT1.out (by intro e he; simp at he; rcases he with he | he <;> simp [he]) (by intro e he; simp at he; rcases he with he | he <;> simp [he]) (by intro e he; simp at he; rcases he with he | he <;> simp [he]) F1.out F2.out T1F.out B1.out B2.out T18.out).mono ?_
  rintro e w10 ⟨rfl, hh⟩
  simp only [HE1.out, HB.out]; clear y0 y1
  have S10 := Lib.hid hh; clear hh S9
  have q5 : (B == (E == 0)) = true := by rw [HBE.out]; by_cases h0 : E = 0 <;> simp [h0]
  go_wp2_with fail
  clear q5
  go_loopw [65] (fun vi wq => ∃ m1 : Nat, m1 ≤ n1 ∧ vi = .int .i64 m1 ∧ St w0 wq [] (tX GR bsR (tL (g1 nd) rows m1) GS bsS srcs GT bsT T1 KX)) (fun vi _ => n1 - (intOf vi).toNat)
  case atStart => exact ⟨0, by omega, rfl, S10.out⟩
  case round =>
    clear S10
    obtain ⟨m1, hi, rfl, hs⟩ := hrel
    have S20 := Lib.hid hs; clear hs
    by_cases hlt : m1 < n1
    · have i1 : (m1 : Int) < (n1 : Int) := by omega
      have TL := Lib.hid (tL_len (g1 nd) rows m1)
      have Ci := Lib.hid (CopyL.len CR.out TL.out)
      have Li : Hid ((tL (g1 nd) rows m1).length = n1) := Lib.hid (by rw [len_len TL.out, L1.out])
      obtain ⟨P, Q, hP, hQ⟩ := ents_split (bs := bsR) (L := tL (g1 nd) rows m1) (i := m1) Ci.out.1 (by rw [Li.out]; exact hlt)
      obtain ⟨hb, ho, he6, hk6⟩ := CopyL.hdr Ci.out hlt S20.out (fun e he => by simp [he])
      rw [tL_at (g1 nd) rows m1 m1 (Nat.le_refl _)] at hP hk6
      subst he6
      have hQ2 : ents bsR (tL (g1 nd) rows (m1 + 1)) = P ++ bt (bsR.getD m1 0) (tn (g1 nd m1) (rows.getD m1 []) (rows.getD m1 []).length) :: Q := hQ _
      have HP := Lib.hid hP; have HQ := Lib.hid hQ2; have HK6 := Lib.hid hk6; clear hP hQ hQ2 hk6
      have L8 := Lib.hid (B1.out.get m1); have LU := F1.out.get m1
      generalize rows.getD m1 [] = l at *
      obtain ⟨q, hq⟩ : ∃ q, Hid (l.length = q) := ⟨_, Lib.hid rfl⟩
      rw [hq.out] at HQ HK6 LU
      generalize bsR.getD m1 0 = rb at *
      obtain ⟨PRE, HPRE⟩ : ∃ X, Hid (GT ++ (ents bsT T1 ++ (GS ++ (ents bsS srcs ++ (GR ++ P)))) = X) := ⟨_, Lib.hid rfl⟩
      obtain ⟨POST, HPOST⟩ : ∃ X, Hid (Q ++ KX = X) := ⟨_, Lib.hid rfl⟩
      have S21 : Hid (St w0 wr [] (PRE ++ bt rb l :: POST)) := Lib.hid (by
        have := S20.out
        simp only [tX] at this
        rw [HP.out] at this
        rw [← HPRE.out, ← HPOST.out]
        simpa only [List.append_assoc, List.cons_append] using this)
      have HNX : Hid (∀ w', St w0 w' [] (PRE ++ bt rb (tn (g1 nd m1) l q) :: POST) → St w0 w' [] (tX GR bsR (tL (g1 nd) rows (m1 + 1)) GS bsS srcs GT bsT T1 KX)) := Lib.hid (fun w' h => by
        simp only [tX]
        rw [HQ.out]
        rw [← HPRE.out, ← HPOST.out] at h
        simpa only [List.append_assoc, List.cons_append] using h)
      have HGP : Hid (∀ X, ∀ e ∈ GR, e ∈ PRE ++ bt rb X :: POST) := Lib.hid (fun X e he => by rw [← HPRE.out]; simp [he])
      clear S20 HP HQ HPRE HPOST TL Ci Li
      have x6 := HK6.out _ _ S21.out (HGP.out _)
      go_wp2_with fail
      go_loopw [73] (fun vi wq => ∃ y : Nat, y ≤ q ∧ vi = .int .i64 y ∧ St w0 wq [] (PRE ++ bt rb (tn (g1 nd m1) l y) :: POST)) (fun vi _ => q - (intOf vi).toNat)
      case atStart => exact ⟨0, by omega, rfl, by rw [tn_zero]; exact S21.out⟩
      case round =>
        clear S21 x6
        obtain ⟨y, hy, rfl, hs⟩ := hrel
        have S22 := Lib.hid hs; clear hs
        by_cases hyq : y < q
        · have y1 : (y : Int) < (q : Int) := by omega
          have hyl : y < l.length := by rw [hq.out]; exact hyq
          have x6 := HK6.out _ _ S22.out (HGP.out _)
          have x8 := (S22.out.blk (by simp : bt rb (tn (g1 nd m1) l y) ∈ _)).cellRow (i := y) (by rw [tn_length]; exact hyl)
          have f8 := (S22.out.blk (by simp : bt rb (tn (g1 nd m1) l y) ∈ _)).free (i := y)
          rw [tn_get hyl, if_neg (by omega)] at x8
          have v8 := L8.out.get hyl
          have HST : Hid ((tn (g1 nd m1) l y).set y (l.getD y 0 ^^^ (y + m1 + nd) % 256) = tn (g1 nd m1) l (y + 1)) := Lib.hid (tn_step (g := g1 nd m1) hyl)
          generalize l.getD y 0 = va at *
          go_wp2_with fail
          have e2 : ((y : Int) + (m1 : Int) + (nd : Int)) % 256 = (((y + m1 + nd) % 256 : Nat) : Int) := by omega
          have e3 : Go.bits .xor .u8 (va : Int) (((y + m1 + nd) % 256 : Nat) : Int) = ((va ^^^ (y + m1 + nd) % 256 : Nat) : Int) := Bt.xor8 v8 (Nat.mod_lt _ (by decide))
          have h9 := S22.out.setRow y (va ^^^ (y + m1 + nd) % 256)
          rw [HST.out] at h9
          refine ⟨⟨y + 1, by omega, by simp, ?_⟩, ?_⟩
          · (try rw [e2]); rw [e3]; exact h9
          · simp [intOf]; omega
        · obtain rfl : y = q := by omega
          go_wp2_with fail
          refine ⟨⟨m1 + 1, by omega, by simp, HNX.out _ S22.out⟩, ?_⟩
          simp [intOf]; omega
    · obtain rfl : m1 = n1 := by omega
      obtain ⟨R2, HR2⟩ : ∃ R, Hid (tL (g1 nd) rows m1 = R) := ⟨_, Lib.hid rfl⟩
      have R2L : Hid (R2.map (·.length) = rows.map (·.length)) := Lib.hid (by rw [← HR2.out]; exact tL_len _ _ _)
      have R28 : Hid (B8L R2) := Lib.hid (by rw [← HR2.out]; exact tL_b8 B1.out (g1_lt nd) _)
      have R2F := Lib.hid (F1.out.len R2L.out)
      have CR2 := Lib.hid (CopyL.len CR.out R2L.out)
      rw [HR2.out] at S20
      clear HR2
      go_wp2_with fail
      go_loopw [96] (fun vi wq => ∃ m2 : Nat, m2 ≤ n2 ∧ vi = .int .i64 m2 ∧ St w0 wq [] (tX GR bsR R2 GS bsS (tL (g2 diff) srcs m2) GT bsT T1 KX)) (fun vi _ => n2 - (intOf vi).toNat)
      case atStart => exact ⟨0, by omega, rfl, S20.out⟩
      case round =>
        clear S20
        obtain ⟨m2, hi, rfl, hs⟩ := hrel
        have S20 := Lib.hid hs; clear hs
        by_cases hlt : m2 < n2
        · have i1 : (m2 : Int) < (n2 : Int) := by omega
          have TL := Lib.hid (tL_len (g2 diff) srcs m2)
          have Ci := Lib.hid (CopyL.len CS.out TL.out)
          have Li : Hid ((tL (g2 diff) srcs m2).length = n2) := Lib.hid (by rw [len_len TL.out, L2.out])
          obtain ⟨P, Q, hP, hQ⟩ := ents_split (bs := bsS) (L := tL (g2 diff) srcs m2) (i := m2) Ci.out.1 (by rw [Li.out]; exact hlt)
          obtain ⟨hb, ho, he6, hk6⟩ := CopyL.hdr Ci.out hlt S20.out (fun e he => by simp [he])
          rw [tL_at (g2 diff) srcs m2 m2 (Nat.le_refl _)] at hP hk6
          subst he6
          have hQ2 : ents bsS (tL (g2 diff) srcs (m2 + 1)) = P ++ bt (bsS.getD m2 0) (tn (g2 diff m2) (srcs.getD m2 []) (srcs.getD m2 []).length) :: Q := hQ _
          have HP := Lib.hid hP; have HQ := Lib.hid hQ2; have HK6 := Lib.hid hk6; clear hP hQ hQ2 hk6
          have L8 := Lib.hid (B2.out.get m2); have LU := F2.out.get m2
          generalize srcs.getD m2 [] = l at *
          obtain ⟨q, hq⟩ : ∃ q, Hid (l.length = q) := ⟨_, Lib.hid rfl⟩
          rw [hq.out] at HQ HK6 LU
          generalize bsS.getD m2 0 = rb at *
          obtain ⟨PRE, HPRE⟩ : ∃ X, Hid (GT ++ (ents bsT T1 ++ (GS ++ P)) = X) := ⟨_, Lib.hid rfl⟩
          obtain ⟨POST, HPOST⟩ : ∃ X, Hid (Q ++ (GR ++ (ents bsR R2 ++ KX)) = X) := ⟨_, Lib.hid rfl⟩
          have S21 : Hid (St w0 wr [] (PRE ++ bt rb l :: POST)) := Lib.hid (by
            have := S20.out
            simp only [tX] at this
            rw [HP.out] at this
            rw [← HPRE.out, ← HPOST.out]
            simpa only [List.append_assoc, List.cons_append] using this)
          have HNX : Hid (∀ w', St w0 w' [] (PRE ++ bt rb (tn (g2 diff m2) l q) :: POST) → St w0 w' [] (tX GR bsR R2 GS bsS (tL (g2 diff) srcs (m2 + 1)) GT bsT T1 KX)) := Lib.hid (fun w' h => by
            simp only [tX]
            rw [HQ.out]
            rw [← HPRE.out, ← HPOST.out] at h
            simpa only [List.append_assoc, List.cons_append] using h)
          have HGP : Hid (∀ X, ∀ e ∈ GS, e ∈ PRE ++ bt rb X :: POST) := Lib.hid (fun X e he => by rw [← HPRE.out]; simp [he])
          clear S20 HP HQ HPRE HPOST TL Ci Li
          have x6 := HK6.out _ _ S21.out (HGP.out _)
          go_wp2_with fail
          go_loopw [104] (fun vi wq => ∃ y : Nat, y ≤ q ∧ vi = .int .i64 y ∧ St w0 wq [] (PRE ++ bt rb (tn (g2 diff m2) l y) :: POST)) (fun vi _ => q - (intOf vi).toNat)
          case atStart => exact ⟨0, by omega, rfl, by rw [tn_zero]; exact S21.out⟩
          case round =>
            clear S21 x6
            obtain ⟨y, hy, rfl, hs⟩ := hrel
            have S22 := Lib.hid hs; clear hs
            by_cases hyq : y < q
            · have y1 : (y : Int) < (q : Int) := by omega
              have hyl : y < l.length := by rw [hq.out]; exact hyq
              have x6 := HK6.out _ _ S22.out (HGP.out _)
              by_cases hyd : y < nd
              · have d1 : (y : Int) < (nd : Int) := by omega
                have x8 := (S22.out.blk (by simp : bt rb (tn (g2 diff m2) l y) ∈ _)).cellRow (i := y) (by rw [tn_length]; exact hyl)
                have f8 := (S22.out.blk (by simp : bt rb (tn (g2 diff m2) l y) ∈ _)).free (i := y)
                rw [tn_get hyl, if_neg (by omega)] at x8
                have v8 := L8.out.get hyl
                obtain ⟨db, dof, ed, kd⟩ := (S22.out.ext RD.out) (by rw [LD.out]; omega)
                have x9 := kd y (by rw [LD.out]; exact hyd)
                have v9 := BD.out.get (i := y) (by rw [LD.out]; exact hyd)
                have HST : Hid ((tn (g2 diff m2) l y).set y (l.getD y 0 ^^^ (diff.getD y 0 + m2) % 256) = tn (g2 diff m2) l (y + 1)) := Lib.hid (by
                  have := tn_step (g := g2 diff m2) hyl
                  unfold g2 at this ⊢
                  rw [if_pos (by rw [LD.out]; exact hyd)] at this
                  exact this)
                subst ed
                clear kd
                generalize l.getD y 0 = va at *
                generalize diff.getD y 0 = vd at *
                go_wp2_with fail
                go_region
                have e2 : ((vd : Int) + (m2 : Int)) % 256 = (((vd + m2) % 256 : Nat) : Int) := by omega
                have e3 : Go.bits .xor .u8 (va : Int) (((vd + m2) % 256 : Nat) : Int) = ((va ^^^ (vd + m2) % 256 : Nat) : Int) := Bt.xor8 v8 (Nat.mod_lt _ (by decide))
                have h9 := (S22.out.setRow y (va ^^^ (vd + m2) % 256)).drew
                rw [HST.out] at h9
                (try rw [e2]); rw [e3]
                generalize (wr.setCell ⟨rb, y, none⟩ (.int .u8 ((va ^^^ (vd + m2) % 256 : Nat) : Int))).drew = wz at *
                clear x6 x8 x9 f8
                go_wp2_with fail
                refine ⟨⟨y + 1, by omega, by simp, h9⟩, ?_⟩
                simp [intOf]; omega
              · have d1 : decide ((y : Int) < (nd : Int)) = false := by simp; omega
                have d2 : decide (y < nd) = false := by simp; omega
                have HSK : Hid (tn (g2 diff m2) l (y + 1) = tn (g2 diff m2) l y) := Lib.hid (tn_skip (fun _ => by unfold g2; rw [if_neg (by rw [LD.out]; omega)]))
                clear x6
                go_wp2_with fail
                refine ⟨⟨y + 1, by omega, by simp, ?_⟩, ?_⟩
                · rw [HSK.out]; exact S22.out
                · simp [intOf]; omega
            · obtain rfl : y = q := by omega
              go_wp2_with fail
              refine ⟨⟨m2 + 1, by omega, by simp, HNX.out _ S22.out⟩, ?_⟩
              simp [intOf]; omega
        · obtain rfl : m2 = n2 := by omega
          obtain ⟨Q2, HQ2⟩ : ∃ R, Hid (tL (g2 diff) srcs m2 = R) := ⟨_, Lib.hid rfl⟩
          have Q2L : Hid (Q2.map (·.length) = srcs.map (·.length)) := Lib.hid (by rw [← HQ2.out]; exact tL_len _ _ _)
          have Q28 : Hid (B8L Q2) := Lib.hid (by rw [← HQ2.out]; exact tL_b8 B2.out (g2_lt diff) _)
          have Q2F := Lib.hid (F2.out.len Q2L.out)
          have CS2 := Lib.hid (CopyL.len CS.out Q2L.out)
          rw [HQ2.out] at S20
          clear HQ2
          have HEE : Hid (fitsE R2 Q2 T1 f t = E) := Lib.hid (by rw [fitsE_lens R2L.out Q2L.out, HE1.out])
          obtain ⟨T2, HT2⟩ : ∃ Y, Hid (appE R2 Q2 T1 f t = Y) := ⟨_, Lib.hid rfl⟩
          have T2L : Hid (T2.map (·.length) = T1.map (·.length)) := Lib.hid (by rw [← HT2.out]; exact appE_len)
          have T28 : Hid (B8L T2) := Lib.hid (by rw [← HT2.out]; exact appE_b8 R28.out T18.out)
          have T2F := Lib.hid (T1F.out.len T2L.out)
          have HEE2 : Hid (fitsE R2 Q2 T2 f t = E) := Lib.hid (by rw [fitsE_congr T2L.out, HEE.out])
          have HB2 : Hid (agrE R2 Q2 T2 f t = B) := Lib.hid (by
            rw [HBE.out]
            by_cases h0 : E = 0
            · rw [decide_eq_true h0, ← HT2.out]; exact agr_app (by rw [HEE.out]; exact h0)
            · rw [decide_eq_false h0]; exact agr_no (by rw [HEE2.out]; exact h0))
          obtain ⟨V, HV⟩ : ∃ V, Hid (agrE R2 Q2 T1 f t = V) := ⟨_, Lib.hid rfl⟩
          have LT1 : Hid (T1.length = n3) := Lib.hid CT1.out.2.1.symm
          have CT2 := Lib.hid (CopyL.len CT1.out T2L.out)
          have LT2 : Hid (T2.length = n3) := Lib.hid CT2.out.2.1.symm
          have LR2 : Hid (R2.length = m1) := Lib.hid CR2.out.2.1.symm
          have LQ2 : Hid (Q2.length = m2) := Lib.hid CS2.out.2.1.symm
          clear CT CR CS HE HT1 HB HE1
          go_wp2_with fail
          refine (copies_st LT1.out T1F.out (CT1.out.rd0 S20.out (fun e he => by simp [he]) (fun e he => by simp [he]))).mono ?_
          rintro e w21 ⟨AW, cW, bsW, GW, rfl, hcw, hh⟩
          have h21 := S20.out.call hh; clear hh S20
          try simp only [List.nil_append, List.cons_append, List.append_eq, Int.toNat_natCast] at h21
          have CW := Lib.hid hcw; clear hcw
          have S21 := Lib.hid h21; clear h21
          have S30 : Hid (St w0 w21 [] (GW ++ (ents bsW T1 ++ tX GR bsR R2 GS bsS Q2 GT bsT T1 KX))) := Lib.hid (by simpa only [tX, List.append_assoc] using S21.out)
          have CW2 := Lib.hid (CopyL.len CW.out T2L.out)
          clear S21
          go_wp2_with fail
          go_wp2_with fail
          have S31 := Lib.hid S30.out.drew; clear S30
          go_region_held3 (fun w' => w'.cell? ⟨sb, 0, none⟩ = some (.int .i64 f) ∧ w'.cell? ⟨sb, 1, none⟩ = some (.int .i64 t)) (first | exact HCS.out _ _ S31.out (by intro e he; simp [he]) | exact HCS.out _ _ S32.out (by intro e he; simp [he]) | exact HCS.out _ _ S33.out (by intro e he; simp [he]) | exact HCS.out _ _ S34.out (by intro e he; simp [he]) | exact HCS.out _ _ S35.out (by intro e he; simp [he]) | exact HCS.out _ _ S36.out (by intro e he; simp [he]) | exact HCS.out _ _ S37.out (by intro e he; simp [he]) | exact HCS.out _ _ S38.out (by intro e he; simp [he]) | exact HCS.out _ _ S39.out (by intro e he; simp [he]) | go_keep) (first
            | (go_at_call 13; (with_reducible refine (copies_st LR2.out R2F.out (CR2.out.rd0 S31.out (fun e he => by simp [he]) (fun e he => by simp [he]))).mono ?_); rintro e w32 ⟨AR2, cR2, bsR2, GR2, rfl, hc, hh⟩; have K32 := Lib.hid hh; have C32 := Lib.hid hc; clear hc; have h32 := S31.out.call hh; clear hh; (try simp only [List.nil_append, List.cons_append, List.append_eq, Int.toNat_natCast] at h32); have S32 := Lib.hid h32; clear h32)
            | (go_at_call 13; (with_reducible refine (copies_st LQ2.out Q2F.out (CS2.out.rd0 S32.out (fun e he => by simp [he]) (fun e he => by simp [he]))).mono ?_); rintro e w33 ⟨AS2, cS2, bsS2, GS2, rfl, hc, hh⟩; have K33 := Lib.hid hh; have C33 := Lib.hid hc; clear hc; have h33 := S32.out.call hh; clear hh S32; (try simp only [List.nil_append, List.cons_append, List.append_eq, Int.toNat_natCast] at h33); have S33 := Lib.hid h33; clear h33)
            | (go_at_call 14; (with_reducible refine (applyC (f := f) (t := t) (M1 := GW) (M2 := tX GR bsR R2 GS bsS Q2 GT bsT T1 KX) SE.out S31.out (fun e he => by simp [SMK.out e he]) (fun e he => .inl he) CW.out K32.out C32.out K33.out C33.out R2F.out Q2F.out T1F.out R28.out Q28.out T18.out).mono ?_); rintro e w34 ⟨rfl, hh⟩; simp only [HEE.out]; rw [HT2.out] at hh; obtain ⟨y0, y1⟩ := HCS.out _ _ hh (fun e he => by simp [he]); have S34 := Lib.hid hh; clear hh C32 C33 K32 K33 S31 S33))
          go_wp2_with fail
          refine (tn_agr (f := f) (t := t) SE.out S34.out (fun e he => by simp [SMK.out e he]) CR2.out CS2.out CW2.out (by intro e he; simp at he; rcases he with he | he <;> simp [he]) (by intro e he; simp at he; rcases he with he | he <;> simp [he]) (by intro e he; simp at he; rcases he with he | he <;> simp [he]) R2F.out Q2F.out T2F.out R28.out Q28.out T28.out).mono ?_
          rintro e w35 ⟨rfl, hh⟩
          simp only [HEE2.out, HB2.out]; clear y0 y1; obtain ⟨y0, y1⟩ := HCS.out _ _ hh (fun e he => by simp [he])
          have S35 := Lib.hid hh; clear hh S34
          go_wp2_with fail
          refine (tn_agr (f := f) (t := t) SE.out S35.out (fun e he => by simp [SMK.out e he]) CR2.out CS2.out CT1.out (by intro e he; simp at he; rcases he with he | he <;> simp [he]) (by intro e he; simp at he; rcases he with he | he <;> simp [he]) (by intro e he; simp at he; rcases he with he | he <;> simp [he]) R2F.out Q2F.out T1F.out R28.out Q28.out T18.out).mono ?_
          rintro e w36 ⟨rfl, hh⟩
          simp only [HEE.out, HV.out]; clear y0 y1; obtain ⟨y0, y1⟩ := HCS.out _ _ hh (fun e he => by simp [he])
          have S36 := Lib.hid hh; clear hh S35
          obtain ⟨D, HD⟩ : ∃ D, Hid (decide (T1 = T2) = D) := ⟨_, Lib.hid rfl⟩
          have HVD : Hid (E = 0 → V = D) := Lib.hid (fun h0 => by rw [← HV.out, ← HD.out, ← HT2.out]; exact agr_fix (by rw [HEE.out]; exact h0))
          have HVN : Hid (E ≠ 0 → V = false ∧ D = true) := Lib.hid (fun h0 => ⟨by rw [← HV.out]; exact agr_no (by rw [HEE.out]; exact h0), by rw [← HD.out, ← HT2.out, app_no (by rw [HEE.out]; exact h0)]; simp⟩)
          go_wp2_with fail
          refine (all_any LT1.out LT2.out T1F.out T2F.out T18.out T28.out (CT1.out.rd0 S36.out (fun e he => by simp [he]) (fun e he => by simp [he])) (CW2.out.rd0 S36.out (fun e he => by simp [he]) (fun e he => by simp [he]))).mono ?_
          rintro e _ ⟨rfl, n37, rfl⟩
          have h37 := S36.out.drewN (n := n37); clear S36
          have S37 := Lib.hid h37; clear h37
          rw [HD.out]
          clear y0 y1
          obtain ⟨y0, y1⟩ := HCS.out _ _ S37.out (fun e he => by simp [he])
          by_cases hE : E = 0
          · have hv := HVD.out hE
            have hb : B = true := by rw [HBE.out, hE]; rfl
            subst hv hb
            clear HVD HVN HBE
            go_wp2_with fail
            refine (tn_app (Z := GW ++ ents bsW T2) (f := f) (t := t) SE.out (by rw [List.append_assoc]; exact S37.out) SMK.out CR2.out CS2.out CT1.out R2F.out Q2F.out T1F.out R28.out Q28.out T18.out).mono ?_
            rintro e w38 ⟨rfl, hh⟩
            simp only [HEE.out]; rw [HT2.out] at hh; clear y0 y1
            have S38 := Lib.hid hh; clear hh S37
            go_wp2_with fail
            refine (all_same LT2.out T2F.out T28.out (CT2.out.rd0 S38.out (fun e he => by simp [he]) (fun e he => by simp [he])) (CW2.out.rd0 S38.out (fun e he => by simp [he]) (fun e he => by simp [he]))).mono ?_
            rintro e _ ⟨rfl, n39, rfl⟩
            have h39 := S38.out.drewN (n := n39); clear S38
            have S39 := Lib.hid h39; clear h39
            go_wp2_with fail
            go_ret
            exact ⟨rfl, by simpa only [World.drewN_drewN] using S39.out.drop ((HKS.out.trans (tX_sub _ _ _ _ _ _ _ _ _ _)).trans (List.sublist_append_right _ _))⟩
          · obtain ⟨hv, hd⟩ := HVN.out hE
            have hb : B = false := by rw [HBE.out, decide_eq_false hE]
            subst hv hd hb
            clear HVD HVN HBE
            go_wp2_with fail
            refine (tn_app (Z := GW ++ ents bsW T2) (f := f) (t := t) SE.out (by rw [List.append_assoc]; exact S37.out) SMK.out CR2.out CS2.out CT1.out R2F.out Q2F.out T1F.out R28.out Q28.out T18.out).mono ?_
            rintro e w38 ⟨rfl, hh⟩
            simp only [HEE.out]; rw [HT2.out] at hh; clear y0 y1
            have S38 := Lib.hid hh; clear hh S37
            go_wp2_with fail
            refine (all_same LT2.out T2F.out T28.out (CT2.out.rd0 S38.out (fun e he => by simp [he]) (fun e he => by simp [he])) (CW2.out.rd0 S38.out (fun e he => by simp [he]) (fun e he => by simp [he]))).mono ?_
            rintro e _ ⟨rfl, n39, rfl⟩
            have h39 := S38.out.drewN (n := n39); clear S38
            have S39 := Lib.hid h39; clear h39
            go_wp2_with fail
            go_ret
            exact ⟨rfl, by simpa only [World.drewN_drewN] using S39.out.drop ((HKS.out.trans (tX_sub _ _ _ _ _ _ _ _ _ _)).trans (List.sublist_append_right _ _))⟩

end Go.Proofs.Ytdbfkjhdnbmpeaa.Sk
