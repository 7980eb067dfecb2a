/- Layer 9: the law KernelSpans. -/
import Derived.Test.YtdbfkjhdnbmpeaaKx
namespace Go.Proofs.Ytdbfkjhdnbmpeaa.Sk
set_option linter.unusedSimpArgs false
set_option linter.unusedVariables false
open Go Go.RowKit Go.Proofs.Ytdbfkjhdnbmpeaa Go.Proofs.Ytdbfkjhdnbmpeaa.Mm Go.Proofs.Ytdbfkjhdnbmpeaa.Gf Go.Proofs.Ytdbfkjhdnbmpeaa.Wr Go.Proofs.Ytdbfkjhdnbmpeaa.Nb Go.Proofs.Ytdbfkjhdnbmpeaa.St

theorem Sets3.mono {b : Nat} {K K' : List Ent} (h : Sets3 b K) (hk : ∀ e ∈ K, e ∈ K') : Sets3 b K' := fun i hi => by
  obtain ⟨p, S, h1, h2, h3⟩ := h i hi
  exact ⟨p, S, h1, fun e he => hk e (h2 e he), fun w0 w N hs hK => h3 w0 w N hs (fun e he => hK e (hk e he))⟩

set_option maxRecDepth 100000 in
set_option maxHeartbeats 8000000 in
theorem spans_calls {A1 A2 A3 : Option Addr} {n1 n2 n3 c1 c2 c3 : Nat} {f t u ri pl : Int} {tb : Nat} {rows srcs dsts : List (List Nat)} {w0 : World} (l1 : rows.length = n1) (l2 : srcs.length = n2) (l3 : dsts.length = n3) (r1 : RdL w0 [] A1 rows) (f1 : Fit rows) (b1 : B8L rows) (r2 : RdL w0 [] A2 srcs) (f2 : Fit srcs) (b2 : B8L srcs) (r3 : RdL w0 [] A3 dsts) (f3 : Fit dsts) (b3 : B8L dsts) (htb : tb < 256) :
    Calls Try.prog 3 #[.agg #[.slice A1 n1 c1, .slice A2 n2 c2, .slice A3 n3 c3, .int .i64 f, .int .i64 t, .int .i64 u, .int .i64 ri, .int .i64 pl, .int .u8 (tb : Int)]] w0 fun e w' => e = .returned (.bool true) ∧ St w0 w' [] [] := by
  have S0 := Lib.hid (St.start w0); have L1 := Lib.hid l1; have L2 := Lib.hid l2; have L3 := Lib.hid l3; have R1 := Lib.hid r1; have R2 := Lib.hid r2; have R3 := Lib.hid r3; have F1 := Lib.hid f1; have F2 := Lib.hid f2; have F3 := Lib.hid f3; have B1 := Lib.hid b1; have B2 := Lib.hid b2; have B3 := Lib.hid b3
  have hn3 : n3 ≤ 140737488351232 := by have := f3.1; omega
  clear l1 l2 l3 r1 r2 r3 f1 f2 f3 b1 b2 b3
  go_enter Try.func3, Try.ntmps3
  go_wp2_with ((with_reducible refine at_slot (N := 1) rfl ?_); refine box_law rfl _ _ #[.slice A1 n1 c1, .slice A2 n2 c2, .slice A3 n3 c3, .int .i64 f, .int .i64 t, .int .i64 u, .int .i64 ri, .int .i64 pl, .int .u8 (tb : Int)] rfl rfl S0.out ?_; intro ob w1 h1; (try simp only [World.size_alloc, List.nil_append, List.cons_append, List.append_eq] at h1); have S1 := Lib.hid h1; clear h1 S0)
  have z0 := (S1.out.blk mem0).cell (i := 0) rfl
  have z1 := (S1.out.blk mem0).cell (i := 1) rfl
  have z2 := (S1.out.blk mem0).cell (i := 2) rfl
  have z3 := (S1.out.blk mem0).cell (i := 3) rfl
  have z4 := (S1.out.blk mem0).cell (i := 4) rfl
  have z5 := (S1.out.blk mem0).cell (i := 5) rfl
  have z6 := (S1.out.blk mem0).cell (i := 6) rfl
  have z7 := (S1.out.blk mem0).cell (i := 7) rfl
  have z8 := (S1.out.blk mem0).cell (i := 8) rfl
  go_region_held3 (fun w' => w'.cell? ⟨ob, 0, none⟩ = some (.slice A1 n1 c1) ∧ w'.cell? ⟨ob, 1, none⟩ = some (.slice A2 n2 c2) ∧ w'.cell? ⟨ob, 2, none⟩ = some (.slice A3 n3 c3) ∧ w'.cell? ⟨ob, 3, none⟩ = some (.int .i64 f) ∧ w'.cell? ⟨ob, 4, none⟩ = some (.int .i64 t) ∧ w'.cell? ⟨ob, 5, none⟩ = some (.int .i64 u) ∧ w'.cell? ⟨ob, 6, none⟩ = some (.int .i64 ri) ∧ w'.cell? ⟨ob, 7, none⟩ = some (.int .i64 pl) ∧ w'.cell? ⟨ob, 8, none⟩ = some (.int .u8 (tb : Int))) (go_keep) (fail)
  have S2 : Hid (St w0 _ [] [⟨w1.heap.size, 24, sumsC A1 A2 A3 n1 n2 n3 c1 c2 c3 f t u⟩]) := Lib.hid ((S1.out.alloc 24 (sumsC A1 A2 A3 n1 n2 n3 c1 c2 c3 f t u)).drew.drop (.cons_cons _ (.cons _ (List.Sublist.refl _))))
  clear S1 z0 z1 z2 z3 z4 z5 z6 z7 z8
  generalize w1.heap.size = xb at *
  go_wp2_with fail
  refine (sets3_st _).mono ?_
  rintro e w3 ⟨lb, cl, K0, rfl, hq3, hh⟩
  have h3 := S2.out.call hh; clear hh S2
  try simp only [List.nil_append, List.cons_append, List.append_eq, Int.toNat_natCast] at h3
  have H30 := Lib.hid hq3; clear hq3
  have S3 := Lib.hid h3; clear h3
  go_wp2_with fail
  refine (fixed_st _).mono ?_
  rintro e w4 ⟨rfl, hh⟩
  have h4 := S3.out.call hh; clear hh S3
  try simp only [List.nil_append, List.cons_append, List.append_eq, Int.toNat_natCast] at h4
  have S4 := Lib.hid h4; clear h4
  obtain ⟨K1, hK1⟩ : ∃ K1, Hid (K0 ++ [⟨xb, 24, sumsC A1 A2 A3 n1 n2 n3 c1 c2 c3 f t u⟩] = K1) := ⟨_, Lib.hid rfl⟩
  have H31 : Hid (Sets3 lb K1) := Lib.hid (H30.out.mono (fun e he => by rw [← hK1.out]; simp [he]))
  have HB1 : Hid ((⟨xb, 24, sumsC A1 A2 A3 n1 n2 n3 c1 c2 c3 f t u⟩ : Ent) ∈ K1) := Lib.hid (by rw [← hK1.out]; simp)
  have S5 : Hid (St w0 w4 [] K1) := Lib.hid (by rw [← hK1.out]; exact S4.out)
  clear H30 hK1
  obtain ⟨z0, z1, z2, z3, z4, z5⟩ := sums_cells S5.out HB1.out
  go_wp2_with fail
  refine (pieced_st (u := u) (cl := cl) S5.out H31.out L1.out L2.out L3.out R1.out F1.out B1.out R2.out F2.out B2.out R3.out F3.out B3.out).mono ?_
  rintro e w6 ⟨rfl, hh⟩
  have S6 := Lib.hid hh; clear hh S5
  clear z0 z1 z2 z3 z4 z5
  obtain ⟨z0, z1, z2, z3, z4, z5⟩ := sums_cells S6.out HB1.out
  go_wp2_with fail
  have S7 := Lib.hid (S6.out.alloc 32 #[.int .i64 f, .int .i64 t]); clear S6
  generalize w6.heap.size = sb at *
  generalize w6.alloc (.cells #[.int .i64 f, .int .i64 t] 32 (0, 0)) = w7 at *
  clear z0 z1 z2 z3 z4 z5
  have HC : Hid (∀ (w' : World) (N' : List Ent), St w0 w' [] N' → (∀ e ∈ (⟨sb, 32, #[.int .i64 f, .int .i64 t]⟩ : Ent) :: K1, e ∈ N') → w'.cell? ⟨xb, 0, none⟩ = some (.slice A1 n1 c1) ∧ w'.cell? ⟨xb, 1, none⟩ = some (.slice A2 n2 c2) ∧ w'.cell? ⟨sb, 0, none⟩ = some (.int .i64 f) ∧ w'.cell? ⟨sb, 1, none⟩ = some (.int .i64 t)) := Lib.hid (fun w' N' hs hm => by
    obtain ⟨g0, g1, _⟩ := sums_cells hs (hm _ (List.mem_cons_of_mem _ HB1.out))
    exact ⟨g0, g1, (hs.blk (hm _ mem0)).cell (i := 0) rfl, (hs.blk (hm _ mem0)).cell (i := 1) rfl⟩)
  obtain ⟨E, HE⟩ : ∃ E, Hid (fitsE rows srcs dsts f t = E) := ⟨_, Lib.hid rfl⟩
  obtain ⟨Y, HY⟩ : ∃ Y, Hid (appE rows srcs dsts f t = Y) := ⟨_, Lib.hid rfl⟩
  have YL : Hid (Y.map (·.length) = dsts.map (·.length)) := Lib.hid (by rw [← HY.out]; exact appE_len)
  have Y8 : Hid (B8L Y) := Lib.hid (by rw [← HY.out]; exact appE_b8 B1.out B3.out)
  have YF := Lib.hid (F3.out.len YL.out)
  have LY : Hid (Y.length = n3) := Lib.hid (by rw [len_len YL.out, L3.out])
  go_loopw [44] (fun vi wq => ∃ i : Nat, i ≤ 3 ∧ vi = .int .i64 i ∧ St w0 wq [] (⟨sb, 32, #[.int .i64 f, .int .i64 t]⟩ :: K1)) (fun vi _ => 3 - (intOf vi).toNat)
  case atStart => exact ⟨0, by omega, rfl, S7.out⟩
  case round =>
    clear S7
    obtain ⟨i, hi, rfl, hs⟩ := hrel
    have S2 := Lib.hid hs; clear hs
    by_cases hlt : i < 3
    · obtain ⟨p, S, hSE, hSM, hcell⟩ := H31.out i hlt
      have SE := Lib.hid hSE; have SM := Lib.hid hSM
      have x4 := hcell _ _ _ S2.out (fun e he => by simp [he])
      clear hSE hSM hcell
      have i1 : (i : Int) < 3 := by omega
      have z2 := (sums_cells S2.out (List.mem_cons_of_mem _ HB1.out)).2.2.1
      go_wp2_with fail
      refine (copies_st L3.out F3.out (S2.out.extL R3.out)).mono ?_
      rintro e w3 ⟨AD, cD, bsD, GD, rfl, hcd, hh⟩
      have h3 := S2.out.call hh; clear hh S2
      try simp only [List.nil_append, List.cons_append, List.append_eq, Int.toNat_natCast] at h3
      have CD := Lib.hid hcd; clear hcd
      have S3 := Lib.hid h3; clear h3
      clear x4 z2
      have S8 : Hid (St w0 w3 [] (GD ++ (ents bsD dsts ++ (⟨sb, 32, #[.int .i64 f, .int .i64 t]⟩ :: K1)))) := Lib.hid (by simpa only [List.append_assoc] using S3.out)
      have CDY := Lib.hid (CD.out.len YL.out)
      have HAP : Hid (∀ (w wA wB : World) (AR AS : Option Addr) (cR cS : Nat) (bsR bsS : List Nat) (GR GS : List Ent), St w0 w [] (GD ++ (ents bsD dsts ++ (⟨sb, 32, #[.int .i64 f, .int .i64 t]⟩ :: K1))) → St w wA [] (GR ++ ents bsR rows) → CopyL AR n1 cR bsR rows GR → St wA wB [] (GS ++ ents bsS srcs) → CopyL AS n2 cS bsS srcs GS →
        Calls Try.prog 14 #[.pointer (some ⟨p, 0, none⟩), .slice AR n1 cR, .slice AS n2 cS, .slice AD n3 cD, .agg #[.int .i64 f, .int .i64 t]] wB fun e w' => e = .returned (.int .i64 E) ∧ St w0 w' [] (GD ++ (ents bsD Y ++ (⟨sb, 32, #[.int .i64 f, .int .i64 t]⟩ :: K1)))) := Lib.hid (fun w wA wB AR AS cR cS bsR bsS GR GS h k1 q1 k2 q2 => by
        have := applyC (f := f) (t := t) (M1 := GD) (M2 := ⟨sb, 32, #[.int .i64 f, .int .i64 t]⟩ :: K1) SE.out h (fun e he => by simp [SM.out e he]) (fun e he => .inl he) CD.out k1 q1 k2 q2 F1.out F2.out F3.out B1.out B2.out B3.out
        rw [HE.out, HY.out] at this
        exact this)
      obtain ⟨B, HBB⟩ : ∃ B, Hid (agrE rows srcs Y f t = B) := ⟨_, Lib.hid rfl⟩
      have HEY : Hid (fitsE rows srcs Y f t = E) := Lib.hid (by rw [fitsE_congr YL.out, HE.out])
      have HAG : Hid (∀ (w wA wB : World) (AR AS : Option Addr) (cR cS : Nat) (bsR bsS : List Nat) (GR GS : List Ent), St w0 w [] (GD ++ (ents bsD Y ++ (⟨sb, 32, #[.int .i64 f, .int .i64 t]⟩ :: K1))) → St w wA [] (GR ++ ents bsR rows) → CopyL AR n1 cR bsR rows GR → St wA wB [] (GS ++ ents bsS srcs) → CopyL AS n2 cS bsS srcs GS →
        Calls Try.prog 15 #[.pointer (some ⟨p, 0, none⟩), .slice AR n1 cR, .slice AS n2 cS, .slice AD n3 cD, .agg #[.int .i64 f, .int .i64 t]] wB fun e w' => e = .returned (.tuple #[.bool B, .int .i64 E]) ∧ St w0 w' [] (GD ++ (ents bsD Y ++ (⟨sb, 32, #[.int .i64 f, .int .i64 t]⟩ :: K1)))) := Lib.hid (fun w wA wB AR AS cR cS bsR bsS GR GS h k1 q1 k2 q2 => by
        have h2 : St w0 wB [] ((GS ++ ents bsS srcs) ++ ((GR ++ ents bsR rows) ++ (GD ++ (ents bsD Y ++ (⟨sb, 32, #[.int .i64 f, .int .i64 t]⟩ :: K1))))) := (h.call k1).call k2
        have := agreesC (f := f) (t := t) (c3 := cD) SE.out h (fun e he => by simp [SM.out e he]) k1 q1 k2 q2 (CDY.out.rd0 h2 (fun e he => by simp [he]) (fun e he => by simp [he])) LY.out F1.out F2.out YF.out B1.out B2.out Y8.out
        rw [HBB.out, HEY.out] at this
        exact this)
      have HBE : Hid (B = decide (E = 0)) := Lib.hid (by
        rw [← HBB.out]
        by_cases h0 : E = 0
        · rw [decide_eq_true h0, ← HY.out]; exact agr_app (by rw [HE.out]; exact h0)
        · rw [decide_eq_false h0]; unfold agrE; rw [if_neg (by rw [HEY.out]; exact h0)])
      go_wp2_with fail
      have S9 := Lib.hid S8.out.drew; clear S8
      go_region_held3 (fun w' => w'.cell? ⟨xb, 0, none⟩ = some (.slice A1 n1 c1) ∧ w'.cell? ⟨xb, 1, none⟩ = some (.slice A2 n2 c2) ∧ w'.cell? ⟨sb, 0, none⟩ = some (.int .i64 f) ∧ w'.cell? ⟨sb, 1, none⟩ = some (.int .i64 t)) (first | exact HC.out _ _ S9.out (by intro e he; simp at he; rcases he with he | he <;> simp [he]) | exact HC.out _ _ S10.out (by intro e he; simp at he; rcases he with he | he <;> simp [he]) | exact HC.out _ _ S11.out (by intro e he; simp at he; rcases he with he | he <;> simp [he]) | exact HC.out _ _ S12.out (by intro e he; simp at he; rcases he with he | he <;> simp [he]) | exact HC.out _ _ S13.out (by intro e he; simp at he; rcases he with he | he <;> simp [he]) | exact HC.out _ _ S14.out (by intro e he; simp at he; rcases he with he | he <;> simp [he]) | exact HC.out _ _ S15.out (by intro e he; simp at he; rcases he with he | he <;> simp [he]) | exact HC.out _ _ S16.out (by intro e he; simp at he; rcases he with he | he <;> simp [he]) | exact HC.out _ _ S17.out (by intro e he; simp at he; rcases he with he | he <;> simp [he]) | go_keep) (first
        | (go_at_call 13; (with_reducible refine (copies_st L1.out F1.out (S9.out.extL R1.out)).mono ?_); rintro e w10 ⟨AR, cR, bsR, GR, rfl, hc, hh⟩; have K10 := Lib.hid hh; have C10 := Lib.hid hc; clear hc; have h10 := S9.out.call hh; clear hh; (try simp only [List.nil_append, List.cons_append, List.append_eq, Int.toNat_natCast] at h10); have S10 := Lib.hid h10; clear h10)
        | (go_at_call 13; (with_reducible refine (copies_st L2.out F2.out (S10.out.extL R2.out)).mono ?_); rintro e w11 ⟨AS, cS, bsS, GS, rfl, hc, hh⟩; have K11 := Lib.hid hh; have C11 := Lib.hid hc; clear hc; have h11 := S10.out.call hh; clear hh S10; (try simp only [List.nil_append, List.cons_append, List.append_eq, Int.toNat_natCast] at h11); have S11 := Lib.hid h11; clear h11)
        | (go_at_call 14; (with_reducible refine (HAP.out _ _ _ _ _ _ _ _ _ _ _ S9.out K10.out C10.out K11.out C11.out).mono ?_); rintro e w12 ⟨rfl, hh⟩; have S12 := Lib.hid hh; clear hh C10 C11 K10 K11 S11 S9))
      go_wp2_with fail
      have S13 := Lib.hid S12.out.drew; clear S12
      go_region_held3 (fun w' => w'.cell? ⟨xb, 0, none⟩ = some (.slice A1 n1 c1) ∧ w'.cell? ⟨xb, 1, none⟩ = some (.slice A2 n2 c2) ∧ w'.cell? ⟨sb, 0, none⟩ = some (.int .i64 f) ∧ w'.cell? ⟨sb, 1, none⟩ = some (.int .i64 t)) (first | exact HC.out _ _ S13.out (by intro e he; simp at he; rcases he with he | he <;> simp [he]) | exact HC.out _ _ S14.out (by intro e he; simp at he; rcases he with he | he <;> simp [he]) | exact HC.out _ _ S15.out (by intro e he; simp at he; rcases he with he | he <;> simp [he]) | exact HC.out _ _ S16.out (by intro e he; simp at he; rcases he with he | he <;> simp [he]) | exact HC.out _ _ S17.out (by intro e he; simp at he; rcases he with he | he <;> simp [he]) | exact HC.out _ _ S18.out (by intro e he; simp at he; rcases he with he | he <;> simp [he]) | exact HC.out _ _ S19.out (by intro e he; simp at he; rcases he with he | he <;> simp [he]) | exact HC.out _ _ S20.out (by intro e he; simp at he; rcases he with he | he <;> simp [he]) | exact HC.out _ _ S21.out (by intro e he; simp at he; rcases he with he | he <;> simp [he]) | go_keep) (first
        | (go_at_call 13; (with_reducible refine (copies_st L1.out F1.out (S13.out.extL R1.out)).mono ?_); rintro e w14 ⟨AR, cR, bsR, GR, rfl, hc, hh⟩; have K14 := Lib.hid hh; have C14 := Lib.hid hc; clear hc; have h14 := S13.out.call hh; clear hh; (try simp only [List.nil_append, List.cons_append, List.append_eq, Int.toNat_natCast] at h14); have S14 := Lib.hid h14; clear h14)
        | (go_at_call 13; (with_reducible refine (copies_st L2.out F2.out (S14.out.extL R2.out)).mono ?_); rintro e w15 ⟨AS, cS, bsS, GS, rfl, hc, hh⟩; have K15 := Lib.hid hh; have C15 := Lib.hid hc; clear hc; have h15 := S14.out.call hh; clear hh S14; (try simp only [List.nil_append, List.cons_append, List.append_eq, Int.toNat_natCast] at h15); have S15 := Lib.hid h15; clear h15)
        | (go_at_call 15; (with_reducible refine (HAG.out _ _ _ _ _ _ _ _ _ _ _ S13.out K14.out C14.out K15.out C15.out).mono ?_); rintro e w16 ⟨rfl, hh⟩; have S16 := Lib.hid hh; clear hh C14 C15 K14 K15 S13 S15))
      have ST := S16; clear S16
      clear HAP
      by_cases hE : E = 0
      · obtain rfl : E = 0 := hE
        have hB : B = true := by rw [HBE.out]; rfl
        subst hB
        by_cases ht0 : tb = 0
        · subst ht0
          go_wp2_with fail
          refine ⟨⟨i + 1, by omega, by simp, ST.out.drop ((List.sublist_append_right (ents bsD Y) _).trans (List.sublist_append_right GD _))⟩, ?_⟩
          simp [intOf]; omega
        · have t0 : ((tb : Int) == 0) = false := by rw [beq_eq_false_iff_ne]; omega
          have t0' : (tb == 0) = false := by simpa using ht0
          by_cases h1 : ri < 0
          · have d1 : decide (ri < 0) = true := by simpa using h1
            clear h1
            go_wp2_with fail
            refine ⟨⟨i + 1, by omega, by simp, ST.out.drop ((List.sublist_append_right (ents bsD Y) _).trans (List.sublist_append_right GD _))⟩, ?_⟩
            simp [intOf]; omega
          · have d1 : decide (ri < 0) = false := by simpa using h1
            by_cases h2 : (n3 : Int) ≤ ri
            · have d2 : decide ((n3 : Int) ≤ ri) = true := by simpa using h2
              clear h1 h2
              go_wp2_with fail
              refine ⟨⟨i + 1, by omega, by simp, ST.out.drop ((List.sublist_append_right (ents bsD Y) _).trans (List.sublist_append_right GD _))⟩, ?_⟩
              simp [intOf]; omega
            · have d2 : decide ((n3 : Int) ≤ ri) = false := by simpa using h2
              by_cases h3 : pl < 0
              · have d3 : decide (pl < 0) = true := by simpa using h3
                clear h1 h2 h3
                go_wp2_with fail
                refine ⟨⟨i + 1, by omega, by simp, ST.out.drop ((List.sublist_append_right (ents bsD Y) _).trans (List.sublist_append_right GD _))⟩, ?_⟩
                simp [intOf]; omega
              · have d3 : decide (pl < 0) = false := by simpa using h3
                obtain ⟨r, rfl⟩ := Int.eq_ofNat_of_zero_le (show 0 ≤ ri by omega)
                obtain ⟨j, rfl⟩ := Int.eq_ofNat_of_zero_le (show 0 ≤ pl by omega)
                have hr3 : r < n3 := by omega
                have r1 : (r : Int) < (n3 : Int) := by omega
                obtain ⟨b6, o6, e6, k6⟩ := (CDY.out.rdV ST.out (fun e he => by simp [he])) (by rw [sds_length CDY.out.1, LY.out]; omega)
                have x6 := k6 r _ (sds_get CDY.out.1 (show r < Y.length by rw [LY.out]; exact hr3))
                simp only [es] at x6
                obtain ⟨q, hq⟩ : ∃ q, Hid ((Y.getD r []).length = q) := ⟨_, Lib.hid rfl⟩
                rw [hq.out] at x6
                clear k6 h1 h2 h3
                subst e6
                by_cases h4 : (q : Int) ≤ (j : Int)
                · have d4 : decide ((q : Int) ≤ (j : Int)) = true := by simpa using h4
                  have d4' : decide (q ≤ j) = true := by simp; omega
                  clear h4
                  go_wp2_with fail
                  clear x6
                  refine ⟨⟨i + 1, by omega, by simp, ST.out.drop ((List.sublist_append_right (ents bsD Y) _).trans (List.sublist_append_right GD _))⟩, ?_⟩
                  simp [intOf]; omega
                · have d4 : decide ((q : Int) ≤ (j : Int)) = false := by simpa using h4
                  have d4' : decide (q ≤ j) = false := by simp; omega
                  have hjq : j < q := by omega
                  have j1 : (j : Int) < (q : Int) := by omega
                  obtain ⟨P, Q, hP, hQ⟩ := ents_split (bs := bsD) (L := Y) (i := r) (by rw [CDY.out.1]) (by rw [LY.out]; exact hr3)
                  have HP := Lib.hid hP; have HQ := Lib.hid (hQ ((Y.getD r []).set j ((Y.getD r []).getD j 0 ^^^ tb))); clear hP hQ
                  have ST2 : Hid (St w0 w16 [] ((GD ++ P) ++ bt (bsD.getD r 0) (Y.getD r []) :: (Q ++ (⟨sb, 32, #[.int .i64 f, .int .i64 t]⟩ :: K1)))) := Lib.hid (by
                    have := ST.out
                    rw [HP.out] at this
                    simpa only [List.append_assoc, List.cons_append] using this)
                  have x8 := (ST2.out.blk (by simp : bt (bsD.getD r 0) (Y.getD r []) ∈ _)).cellRow (i := j) (by rw [hq.out]; exact hjq)
                  have f8 := (ST2.out.blk (by simp : bt (bsD.getD r 0) (Y.getD r []) ∈ _)).free (i := j)
                  have v8 := (Y8.out.get r).get (i := j) (by rw [hq.out]; exact hjq)
                  have HT := Lib.hid (agr_turned (b := tb) (p := j) HE.out (show r < dsts.length by rw [L3.out]; exact hr3) (by rw [← len_getD YL.out, hq.out]; exact hjq) ht0)
                  rw [HY.out] at HT
                  obtain ⟨Z, hZ⟩ : ∃ Z, Hid (Y.set r ((Y.getD r []).set j ((Y.getD r []).getD j 0 ^^^ tb)) = Z) := ⟨_, Lib.hid rfl⟩
                  rw [hZ.out] at HT HQ
                  have ZL : Hid (Z.map (·.length) = Y.map (·.length)) := Lib.hid (by rw [← hZ.out]; exact map_len_set (by rw [List.length_set]))
                  have Z8 : Hid (B8L Z) := Lib.hid (by rw [← hZ.out]; exact Y8.out.set r (fun x hx => (List.mem_or_eq_of_mem_set hx).elim (Y8.out.get r x) (fun e => e ▸ Nat.xor_lt_two_pow (n := 8) v8 htb)))
                  have ZF := Lib.hid (YF.out.len ZL.out)
                  have LZ : Hid (Z.length = n3) := Lib.hid (by rw [len_len ZL.out, LY.out])
                  have CDZ := Lib.hid (CDY.out.len ZL.out)
                  have HEZ : Hid (fitsE rows srcs Z f t = 0) := Lib.hid (by rw [fitsE_congr ZL.out, HEY.out])
                  generalize (Y.getD r []).getD j 0 = va at *
                  have e3 : Go.bits .xor .u8 (va : Int) (tb : Int) = ((va ^^^ tb : Nat) : Int) := Bt.xor8 v8 htb
                  have S9 := Lib.hid (ST2.out.setRow j (va ^^^ tb))
                  have SZ : Hid (St w0 (w16.setCell ⟨bsD.getD r 0, j, none⟩ (.int .u8 ((va ^^^ tb : Nat) : Int))) [] (GD ++ (ents bsD Z ++ (⟨sb, 32, #[.int .i64 f, .int .i64 t]⟩ :: K1)))) := Lib.hid (by
                    rw [HQ.out]
                    simpa only [List.append_assoc, List.cons_append] using S9.out)
                  clear S9 ST2 ST
                  obtain ⟨Bz, HB2⟩ : ∃ Bz, Hid (agrE rows srcs Z f t = Bz) := ⟨_, Lib.hid rfl⟩
                  rw [HB2.out] at HT
                  have HAG2 : Hid (∀ (w wA wB : World) (AR AS : Option Addr) (cR cS : Nat) (bsR bsS : List Nat) (GR GS : List Ent), St w0 w [] (GD ++ (ents bsD Z ++ (⟨sb, 32, #[.int .i64 f, .int .i64 t]⟩ :: K1))) → St w wA [] (GR ++ ents bsR rows) → CopyL AR n1 cR bsR rows GR → St wA wB [] (GS ++ ents bsS srcs) → CopyL AS n2 cS bsS srcs GS →
                    Calls Try.prog 15 #[.pointer (some ⟨p, 0, none⟩), .slice AR n1 cR, .slice AS n2 cS, .slice (some ⟨b6, o6, none⟩) n3 cD, .agg #[.int .i64 f, .int .i64 t]] wB fun e w' => e = .returned (.tuple #[.bool Bz, .int .i64 0]) ∧ St w0 w' [] (GD ++ (ents bsD Z ++ (⟨sb, 32, #[.int .i64 f, .int .i64 t]⟩ :: K1)))) := Lib.hid (fun w wA wB AR AS cR cS bsR bsS GR GS h k1 q1 k2 q2 => by
                    have h2 : St w0 wB [] ((GS ++ ents bsS srcs) ++ ((GR ++ ents bsR rows) ++ (GD ++ (ents bsD Z ++ (⟨sb, 32, #[.int .i64 f, .int .i64 t]⟩ :: K1))))) := (h.call k1).call k2
                    have := agreesC (f := f) (t := t) (c3 := cD) SE.out h (fun e he => by simp [SM.out e he]) k1 q1 k2 q2 (CDZ.out.rd0 h2 (fun e he => by simp [he]) (fun e he => by simp [he])) LZ.out F1.out F2.out ZF.out B1.out B2.out Z8.out
                    rw [HB2.out, HEZ.out] at this
                    exact this)
                  generalize bsD.getD r 0 = rb at *
                  go_wp2_with fail
                  clear x6 x8 f8 e3
                  generalize w16.setCell ⟨rb, j, none⟩ (.int .u8 ((va ^^^ tb : Nat) : Int)) = w17 at *
                  have S17 := Lib.hid SZ.out.drew; clear SZ
                  go_region_held3 (fun w' => w'.cell? ⟨xb, 0, none⟩ = some (.slice A1 n1 c1) ∧ w'.cell? ⟨xb, 1, none⟩ = some (.slice A2 n2 c2) ∧ w'.cell? ⟨sb, 0, none⟩ = some (.int .i64 f) ∧ w'.cell? ⟨sb, 1, none⟩ = some (.int .i64 t)) (first | exact HC.out _ _ S17.out (by intro e he; simp at he; rcases he with he | he <;> simp [he]) | exact HC.out _ _ S18.out (by intro e he; simp at he; rcases he with he | he <;> simp [he]) | exact HC.out _ _ S19.out (by intro e he; simp at he; rcases he with he | he <;> simp [he]) | exact HC.out _ _ S20.out (by intro e he; simp at he; rcases he with he | he <;> simp [he]) | exact HC.out _ _ S21.out (by intro e he; simp at he; rcases he with he | he <;> simp [he]) | exact HC.out _ _ S22.out (by intro e he; simp at he; rcases he with he | he <;> simp [he]) | exact HC.out _ _ S23.out (by intro e he; simp at he; rcases he with he | he <;> simp [he]) | exact HC.out _ _ S24.out (by intro e he; simp at he; rcases he with he | he <;> simp [he]) | exact HC.out _ _ S25.out (by intro e he; simp at he; rcases he with he | he <;> simp [he]) | go_keep) (first
                    | (go_at_call 13; (with_reducible refine (copies_st L1.out F1.out (S17.out.extL R1.out)).mono ?_); rintro e w18 ⟨AR, cR, bsR, GR, rfl, hc, hh⟩; have K18 := Lib.hid hh; have C18 := Lib.hid hc; clear hc; have h18 := S17.out.call hh; clear hh; (try simp only [List.nil_append, List.cons_append, List.append_eq, Int.toNat_natCast] at h18); have S18 := Lib.hid h18; clear h18)
                    | (go_at_call 13; (with_reducible refine (copies_st L2.out F2.out (S18.out.extL R2.out)).mono ?_); rintro e w19 ⟨AS, cS, bsS, GS, rfl, hc, hh⟩; have K19 := Lib.hid hh; have C19 := Lib.hid hc; clear hc; have h19 := S18.out.call hh; clear hh S18; (try simp only [List.nil_append, List.cons_append, List.append_eq, Int.toNat_natCast] at h19); have S19 := Lib.hid h19; clear h19)
                    | (go_at_call 15; (with_reducible refine (HAG2.out _ _ _ _ _ _ _ _ _ _ _ S17.out K18.out C18.out K19.out C19.out).mono ?_); rintro e w20 ⟨rfl, hh⟩; have S20 := Lib.hid hh; clear hh C18 C19 K18 K19 S17 S19))
                  have SU := S20; clear S20
                  obtain ⟨_, _, _, z3, z4, _⟩ := sums_cells SU.out (List.mem_append_right _ (List.mem_append_right _ (List.mem_cons_of_mem _ HB1.out)))
                  by_cases g1 : f ≤ (j : Int)
                  · have d5 : decide (f ≤ (j : Int)) = true := by simpa using g1
                    by_cases g2 : (j : Int) < t
                    · have d6 : decide ((j : Int) < t) = true := by simpa using g2
                      obtain rfl : Bz = false := by rw [HT.out]; simp [g1, g2]
                      clear g1 g2
                      go_wp2_with fail
                      refine ⟨⟨i + 1, by omega, by simp, SU.out.drop ((List.sublist_append_right (ents bsD Z) _).trans (List.sublist_append_right GD _))⟩, ?_⟩
                      simp [intOf]; omega
                    · have d6 : decide ((j : Int) < t) = false := by simpa using g2
                      obtain rfl : Bz = true := by rw [HT.out]; simp [g1, g2]
                      clear g1 g2
                      go_wp2_with fail
                      refine ⟨⟨i + 1, by omega, by simp, SU.out.drop ((List.sublist_append_right (ents bsD Z) _).trans (List.sublist_append_right GD _))⟩, ?_⟩
                      simp [intOf]; omega
                  · have d5 : decide (f ≤ (j : Int)) = false := by simpa using g1
                    obtain rfl : Bz = true := by rw [HT.out]; simp [g1]
                    clear g1
                    go_wp2_with fail
                    refine ⟨⟨i + 1, by omega, by simp, SU.out.drop ((List.sublist_append_right (ents bsD Z) _).trans (List.sublist_append_right GD _))⟩, ?_⟩
                    simp [intOf]; omega
      · have q1 : (E == 0) = false := by simpa using hE
        have q2 : (E != 0) = true := by rw [bne_iff_ne]; exact hE
        have hB : B = false := by rw [HBE.out, decide_eq_false hE]
        subst hB
        clear hE
        go_wp2_with fail
        refine ⟨⟨i + 1, by omega, by simp, ST.out.drop ((List.sublist_append_right (ents bsD Y) _).trans (List.sublist_append_right GD _))⟩, ?_⟩
        simp [intOf]; omega
    · obtain rfl : i = 3 := by omega
      go_wp2_with fail
      go_ret
      exact ⟨rfl, S2.out.nil⟩

end Go.Proofs.Ytdbfkjhdnbmpeaa.Sk
