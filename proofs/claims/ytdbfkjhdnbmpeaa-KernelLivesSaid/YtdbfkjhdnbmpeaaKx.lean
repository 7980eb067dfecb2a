/- Layer 9: the law KernelSpans: pieced. -/
import Derived.Test.YtdbfkjhdnbmpeaaKz
import Derived.Test.YtdbfkjhdnbmpeaaKw
namespace Go.Proofs.Ytdbfkjhdnbmpeaa.Sk
set_option linter.unusedSimpArgs false
set_option linter.unusedVariables false
open Go Go.RowKit Go.Proofs.Ytdbfkjhdnbmpeaa Go.Proofs.Ytdbfkjhdnbmpeaa.Mm Go.Proofs.Ytdbfkjhdnbmpeaa.Gf Go.Proofs.Ytdbfkjhdnbmpeaa.Wr Go.Proofs.Ytdbfkjhdnbmpeaa.Nb Go.Proofs.Ytdbfkjhdnbmpeaa.St

/-- The three sets at hand, listed in block b; K: all their blocks. -/
def Sets3 (b : Nat) (K : List Ent) : Prop := ∀ i, i < 3 → ∃ p S, SetE p i S ∧ (∀ e ∈ S, e ∈ K) ∧ ∀ (w0 w : World) (N : List Ent), St w0 w [] N → (∀ e ∈ K, e ∈ N) → w.cell? ⟨b, i, none⟩ = some (.pointer (some ⟨p, 0, none⟩))
theorem sets3_st (w : World) : Calls Try.prog 10 #[] w fun e w' => ∃ b c K, e = .returned (.slice (some ⟨b, 0, none⟩) 3 c) ∧ Sets3 b K ∧ St w w' [] K := by
  refine (sets_st w).mono ?_
  rintro e w' ⟨A, c, p0, p1, p2, S0, S1, S2, G, rfl, h0, h1, h2, hg, hs⟩
  rcases hg.2 with ⟨B, _, e0, _⟩ | ⟨g, cap, cur, e, hnc, hcm, hcs, htake, hp, rfl⟩
  · simp at e0
  · injection e with e1 e2 e3
    subst e1
    refine ⟨g, c, _, rfl, fun i hi => ?_, hs⟩
    obtain ⟨p, S, hp, hSE, hSM⟩ := pick3 (G := [⟨g, 33, cur⟩]) h0 h1 h2 hi
    refine ⟨p, S, hSE, hSM, fun w0 w N hs hK => ?_⟩
    obtain ⟨b, o, eb, k⟩ := (sets_get hg hs (fun e he => hK e (List.mem_append_left _ he))) (by simp)
    injection eb with eb; injection eb with eb1 eb2 _
    have := k i _ hp
    rw [← eb1, ← eb2, Nat.zero_add] at this
    exact this

/-- The cells of a Sums. -/
abbrev sumsC (A1 A2 A3 : Option Addr) (n1 n2 n3 c1 c2 c3 : Nat) (f t u : Int) : Array Value := #[.slice A1 n1 c1, .slice A2 n2 c2, .slice A3 n3 c3, .int .i64 f, .int .i64 t, .int .i64 u]
theorem sums_cells {w0 w : World} {N : List Ent} {xb : Nat} {A1 A2 A3 : Option Addr} {n1 n2 n3 c1 c2 c3 : Nat} {f t u : Int} (hs : St w0 w [] N) (hm : (⟨xb, 24, sumsC A1 A2 A3 n1 n2 n3 c1 c2 c3 f t u⟩ : Ent) ∈ N) :
    w.cell? ⟨xb, 0, none⟩ = some (.slice A1 n1 c1) ∧ w.cell? ⟨xb, 1, none⟩ = some (.slice A2 n2 c2) ∧ w.cell? ⟨xb, 2, none⟩ = some (.slice A3 n3 c3) ∧ w.cell? ⟨xb, 3, none⟩ = some (.int .i64 f) ∧ w.cell? ⟨xb, 4, none⟩ = some (.int .i64 t) ∧ w.cell? ⟨xb, 5, none⟩ = some (.int .i64 u) :=
  ⟨(hs.blk hm).cell (i := 0) rfl, (hs.blk hm).cell (i := 1) rfl, (hs.blk hm).cell (i := 2) rfl, (hs.blk hm).cell (i := 3) rfl, (hs.blk hm).cell (i := 4) rfl, (hs.blk hm).cell (i := 5) rfl⟩

set_option maxRecDepth 100000 in
set_option maxHeartbeats 8000000 in
theorem pieced_st {lb cl : Nat} {K : List Ent} {w0 w : World} {A1 A2 A3 : Option Addr} {n1 n2 n3 c1 c2 c3 : Nat} {f t u : Int} {rows srcs dsts : List (List Nat)} (h : St w0 w [] K) (h3 : Sets3 lb K) (l1 : rows.length = n1) (l2 : srcs.length = n2) (l3 : dsts.length = n3) (r1 : RdL w0 [] A1 rows) (f1 : Fit rows) (b1 : B8L rows) (r2 : RdL w0 [] A2 srcs) (f2 : Fit srcs) (b2 : B8L srcs) (r3 : RdL w0 [] A3 dsts) (f3 : Fit dsts) (b3 : B8L dsts) :
    Calls Try.prog 12 #[.slice (some ⟨lb, 0, none⟩) 3 cl, .agg (sumsC A1 A2 A3 n1 n2 n3 c1 c2 c3 f t u)] w fun e w' => e = .returned (.bool true) ∧ St w0 w' [] K := by
  have S0 := Lib.hid h; have H3 := Lib.hid h3; have L1 := Lib.hid l1; have L2 := Lib.hid l2; have L3 := Lib.hid l3; have R1 := Lib.hid r1; have R2 := Lib.hid r2; have R3 := Lib.hid r3; have F1 := Lib.hid f1; have F2 := Lib.hid f2; have F3 := Lib.hid f3; have B1 := Lib.hid b1; have B2 := Lib.hid b2; have B3 := Lib.hid b3
  have hn3 : n3 ≤ 140737488351232 := by have := f3.1; omega
  clear h h3 l1 l2 l3 r1 r2 r3 f1 f2 f3 b1 b2 b3
  go_enter Try.func12, Try.ntmps12
  go_wp2_with ((with_reducible refine at_slot (N := 3) rfl ?_); refine box_law rfl _ _ (sumsC A1 A2 A3 n1 n2 n3 c1 c2 c3 f t u) rfl rfl S0.out ?_; intro xb w1 h1; (try simp only [World.size_alloc, List.nil_append, List.cons_append, List.append_eq] at h1); have S1 := Lib.hid h1; clear h1 S0)
  have HC := Lib.hid (fun (w' : World) (N' : List Ent) (hs : St w0 w' [] N') (hm : (⟨xb, 24, sumsC A1 A2 A3 n1 n2 n3 c1 c2 c3 f t u⟩ : Ent) ∈ N') => sums_cells hs hm)
  go_loopw [16] (fun vi wq => ∃ i : Nat, i ≤ 3 ∧ vi = .int .i64 i ∧ St w0 wq [] (⟨xb, 24, sumsC A1 A2 A3 n1 n2 n3 c1 c2 c3 f t u⟩ :: K)) (fun vi _ => 3 - (intOf vi).toNat)
  case atStart => exact ⟨0, by omega, rfl, S1.out⟩
  case round =>
    clear S1
    obtain ⟨i, hi, rfl, hs⟩ := hrel
    have S2 := Lib.hid hs; clear hs
    by_cases hlt : i < 3
    · obtain ⟨p, S, hSE, hSM, hcell⟩ := H3.out i hlt
      have SE := Lib.hid hSE; have SM := Lib.hid hSM
      have x4 := hcell _ _ _ S2.out (fun e he => by simp [he])
      clear hSE hSM hcell
      have i1 : (i : Int) < 3 := by omega
      go_wp2_with fail
      clear x4
      have S3 := Lib.hid S2.out.drew; clear S2
      go_region_held3 (fun w' => w'.cell? ⟨xb, 0, none⟩ = some (.slice A1 n1 c1) ∧ w'.cell? ⟨xb, 1, none⟩ = some (.slice A2 n2 c2) ∧ w'.cell? ⟨xb, 2, none⟩ = some (.slice A3 n3 c3) ∧ w'.cell? ⟨xb, 3, none⟩ = some (.int .i64 f) ∧ w'.cell? ⟨xb, 4, none⟩ = some (.int .i64 t) ∧ w'.cell? ⟨xb, 5, none⟩ = some (.int .i64 u)) (first | exact HC.out _ _ S3.out (by simp) | exact HC.out _ _ S4.out (by simp) | exact HC.out _ _ S5.out (by simp) | exact HC.out _ _ S6.out (by simp) | exact HC.out _ _ S7.out (by simp) | exact HC.out _ _ S8.out (by simp) | exact HC.out _ _ S9.out (by simp) | exact HC.out _ _ S10.out (by simp) | exact HC.out _ _ S11.out (by simp) | go_keep) (first
        | (go_at_call 13; (with_reducible refine (copies_st L3.out F3.out (S3.out.extL R3.out)).mono ?_); rintro e w4 ⟨AW, cW, bsW, GW, rfl, hc, hh⟩; have K4 := Lib.hid hh; have C4 := Lib.hid hc; clear hc; have h4 := S3.out.call hh; clear hh; (try simp only [List.nil_append, List.cons_append, List.append_eq, Int.toNat_natCast] at h4); have S4 := Lib.hid h4; clear h4)
        | (go_at_call 13; (with_reducible refine (copies_st L3.out F3.out (S4.out.extL R3.out)).mono ?_); rintro e w5 ⟨AL, cL, bsL, GL, rfl, hc, hh⟩; have K5 := Lib.hid hh; have C5 := Lib.hid hc; clear hc; have h5 := S4.out.call hh; clear hh S4; (try simp only [List.nil_append, List.cons_append, List.append_eq, Int.toNat_natCast] at h5); have S5 := Lib.hid h5; clear h5))
      have SQ : Hid (St w0 w5 [] (GL ++ (ents bsL dsts ++ (GW ++ (ents bsW dsts ++ (⟨xb, 24, sumsC A1 A2 A3 n1 n2 n3 c1 c2 c3 f t u⟩ :: K)))))) := Lib.hid (by simpa only [List.append_assoc] using S5.out)
      have CW := C4; have CL := C5
      clear S3 S5 K4 K5 C4 C5
      obtain ⟨E, HE⟩ : ∃ E, Hid (fitsE rows srcs dsts f t = E) := ⟨_, Lib.hid rfl⟩
      obtain ⟨Y, HY⟩ : ∃ Y, Hid (appE rows srcs dsts f t = Y) := ⟨_, Lib.hid rfl⟩
      have YL : Hid (Y.map (·.length) = dsts.map (·.length)) := Lib.hid (by rw [← HY.out]; exact appE_len)
      have Y8 : Hid (B8L Y) := Lib.hid (by rw [← HY.out]; exact appE_b8 B1.out B3.out)
      have YF := Lib.hid (F3.out.len YL.out)
      have HAP : Hid (∀ (w wA wB : World) (AR AS : Option Addr) (cR cS : Nat) (bsR bsS : List Nat) (GR GS : List Ent), St w0 w [] (GL ++ (ents bsL dsts ++ (GW ++ (ents bsW dsts ++ (⟨xb, 24, sumsC A1 A2 A3 n1 n2 n3 c1 c2 c3 f t u⟩ :: K))))) → St w wA [] (GR ++ ents bsR rows) → CopyL AR n1 cR bsR rows GR → St wA wB [] (GS ++ ents bsS srcs) → CopyL AS n2 cS bsS srcs GS →
        Calls Try.prog 14 #[.pointer (some ⟨p, 0, none⟩), .slice AR n1 cR, .slice AS n2 cS, .slice AW n3 cW, .agg #[.int .i64 f, .int .i64 t]] wB fun e w' => e = .returned (.int .i64 E) ∧ St w0 w' [] (GL ++ (ents bsL dsts ++ (GW ++ (ents bsW Y ++ (⟨xb, 24, sumsC A1 A2 A3 n1 n2 n3 c1 c2 c3 f t u⟩ :: K)))))) := Lib.hid (fun w wA wB AR AS cR cS bsR bsS GR GS h k1 q1 k2 q2 => by
        have := applyC (f := f) (t := t) (M1 := GL ++ (ents bsL dsts ++ GW)) (M2 := ⟨xb, 24, sumsC A1 A2 A3 n1 n2 n3 c1 c2 c3 f t u⟩ :: K) SE.out (by first | exact h | (simp only [List.append_assoc]; exact h)) (fun e he => by simp [SM.out e he]) (fun e he => .inl (by simp [he])) CW.out k1 q1 k2 q2 F1.out F2.out F3.out B1.out B2.out B3.out
        rw [HE.out, HY.out] at this
        try simp only [List.append_assoc] at this
        exact this)
      go_wp2_with fail
      have S6 := Lib.hid SQ.out.drew; clear SQ
      go_region_held3 (fun w' => w'.cell? ⟨xb, 0, none⟩ = some (.slice A1 n1 c1) ∧ w'.cell? ⟨xb, 1, none⟩ = some (.slice A2 n2 c2) ∧ w'.cell? ⟨xb, 2, none⟩ = some (.slice A3 n3 c3) ∧ w'.cell? ⟨xb, 3, none⟩ = some (.int .i64 f) ∧ w'.cell? ⟨xb, 4, none⟩ = some (.int .i64 t) ∧ w'.cell? ⟨xb, 5, none⟩ = some (.int .i64 u)) (first | exact HC.out _ _ S6.out (by simp) | exact HC.out _ _ S7.out (by simp) | exact HC.out _ _ S8.out (by simp) | exact HC.out _ _ S9.out (by simp) | exact HC.out _ _ S10.out (by simp) | exact HC.out _ _ S11.out (by simp) | exact HC.out _ _ S12.out (by simp) | exact HC.out _ _ S13.out (by simp) | exact HC.out _ _ S14.out (by simp) | go_keep) (first
        | (go_at_call 13; (with_reducible refine (copies_st L1.out F1.out (S6.out.extL R1.out)).mono ?_); rintro e w7 ⟨AR, cR, bsR, GR, rfl, hc, hh⟩; have K7 := Lib.hid hh; have C7 := Lib.hid hc; clear hc; have h7 := S6.out.call hh; clear hh; (try simp only [List.nil_append, List.cons_append, List.append_eq, Int.toNat_natCast] at h7); have S7 := Lib.hid h7; clear h7)
        | (go_at_call 13; (with_reducible refine (copies_st L2.out F2.out (S7.out.extL R2.out)).mono ?_); rintro e w8 ⟨AS, cS, bsS, GS, rfl, hc, hh⟩; have K8 := Lib.hid hh; have C8 := Lib.hid hc; clear hc; have h8 := S7.out.call hh; clear hh S7; (try simp only [List.nil_append, List.cons_append, List.append_eq, Int.toNat_natCast] at h8); have S8 := Lib.hid h8; clear h8)
        | (go_at_call 14; (with_reducible refine (HAP.out _ _ _ _ _ _ _ _ _ _ _ S6.out K7.out C7.out K8.out C8.out).mono ?_); rintro e w9 ⟨rfl, hh⟩; have S9 := Lib.hid hh; clear hh C7 C8 K7 K8 S6 S8))
      by_cases hE : E = 0
      · obtain rfl : E = 0 := hE
        have hcells := HC.out _ _ S9.out (by simp)
        obtain ⟨z0, z1, z2, z3, z4, z5⟩ := hcells
        by_cases hu1 : u < f
        · have d1 : decide (u < f) = true := by simpa using hu1
          clear hu1
          go_wp2_with fail
          refine ⟨⟨i + 1, by omega, by simp, S9.out.drop ((((List.sublist_append_right (ents bsW Y) _).trans (List.sublist_append_right GW _)).trans (List.sublist_append_right (ents bsL dsts) _)).trans (List.sublist_append_right GL _))⟩, ?_⟩
          simp [intOf]; omega
        · have d1 : decide (u < f) = false := by simpa using hu1
          by_cases hu2 : t < u
          · have d2 : decide (t < u) = true := by simpa using hu2
            clear hu1 hu2
            go_wp2_with fail
            refine ⟨⟨i + 1, by omega, by simp, S9.out.drop ((((List.sublist_append_right (ents bsW Y) _).trans (List.sublist_append_right GW _)).trans (List.sublist_append_right (ents bsL dsts) _)).trans (List.sublist_append_right GL _))⟩, ?_⟩
            simp [intOf]; omega
          · have d2 : decide (t < u) = false := by simpa using hu2
            have HE1 := Lib.hid (fits_piece HE.out (show f ≤ u by omega) (show u ≤ t by omega) (Int.le_refl _))
            obtain ⟨Y1, HY1⟩ : ∃ Y1, Hid (appE rows srcs dsts u t = Y1) := ⟨_, Lib.hid rfl⟩
            have YL1 : Hid (Y1.map (·.length) = dsts.map (·.length)) := Lib.hid (by rw [← HY1.out]; exact appE_len)
            have Y81 : Hid (B8L Y1) := Lib.hid (by rw [← HY1.out]; exact appE_b8 B1.out B3.out)
            have YF1 := Lib.hid (F3.out.len YL1.out)
            have HE2 : Hid (fitsE rows srcs Y1 f u = 0) := Lib.hid (by rw [fitsE_congr YL1.out]; exact fits_piece HE.out (Int.le_refl _) (show f ≤ u by omega) (show u ≤ t by omega))
            have HY2 : Hid (appE rows srcs Y1 f u = Y) := Lib.hid (by rw [← HY1.out, ← HY.out]; exact app_pieces HE.out (by omega) (by omega))
            have CL1 := Lib.hid (CL.out.len YL1.out)
            clear hu1 hu2
            have HAP1 : Hid (∀ (w wA wB : World) (AR AS : Option Addr) (cR cS : Nat) (bsR bsS : List Nat) (GR GS : List Ent), St w0 w [] (GL ++ (ents bsL dsts ++ (GW ++ (ents bsW Y ++ (⟨xb, 24, sumsC A1 A2 A3 n1 n2 n3 c1 c2 c3 f t u⟩ :: K))))) → St w wA [] (GR ++ ents bsR rows) → CopyL AR n1 cR bsR rows GR → St wA wB [] (GS ++ ents bsS srcs) → CopyL AS n2 cS bsS srcs GS →
              Calls Try.prog 14 #[.pointer (some ⟨p, 0, none⟩), .slice AR n1 cR, .slice AS n2 cS, .slice AL n3 cL, .agg #[.int .i64 u, .int .i64 t]] wB fun e w' => e = .returned (.int .i64 0) ∧ St w0 w' [] (GL ++ (ents bsL Y1 ++ (GW ++ (ents bsW Y ++ (⟨xb, 24, sumsC A1 A2 A3 n1 n2 n3 c1 c2 c3 f t u⟩ :: K)))))) := Lib.hid (fun w wA wB AR AS cR cS bsR bsS GR GS h k1 q1 k2 q2 => by
              have := applyC (f := u) (t := t) (M1 := GL) (M2 := GW ++ (ents bsW Y ++ (⟨xb, 24, sumsC A1 A2 A3 n1 n2 n3 c1 c2 c3 f t u⟩ :: K))) SE.out (by first | exact h | (simp only [List.append_assoc]; exact h)) (fun e he => by simp [SM.out e he]) (fun e he => .inl (by simp [he])) CL.out k1 q1 k2 q2 F1.out F2.out F3.out B1.out B2.out B3.out
              rw [HE1.out, HY1.out] at this
              try simp only [List.append_assoc] at this
              exact this)
            have HAP2 : Hid (∀ (w wA wB : World) (AR AS : Option Addr) (cR cS : Nat) (bsR bsS : List Nat) (GR GS : List Ent), St w0 w [] (GL ++ (ents bsL Y1 ++ (GW ++ (ents bsW Y ++ (⟨xb, 24, sumsC A1 A2 A3 n1 n2 n3 c1 c2 c3 f t u⟩ :: K))))) → St w wA [] (GR ++ ents bsR rows) → CopyL AR n1 cR bsR rows GR → St wA wB [] (GS ++ ents bsS srcs) → CopyL AS n2 cS bsS srcs GS →
              Calls Try.prog 14 #[.pointer (some ⟨p, 0, none⟩), .slice AR n1 cR, .slice AS n2 cS, .slice AL n3 cL, .agg #[.int .i64 f, .int .i64 u]] wB fun e w' => e = .returned (.int .i64 0) ∧ St w0 w' [] (GL ++ (ents bsL Y ++ (GW ++ (ents bsW Y ++ (⟨xb, 24, sumsC A1 A2 A3 n1 n2 n3 c1 c2 c3 f t u⟩ :: K)))))) := Lib.hid (fun w wA wB AR AS cR cS bsR bsS GR GS h k1 q1 k2 q2 => by
              have := applyC (f := f) (t := u) (M1 := GL) (M2 := GW ++ (ents bsW Y ++ (⟨xb, 24, sumsC A1 A2 A3 n1 n2 n3 c1 c2 c3 f t u⟩ :: K))) SE.out (by first | exact h | (simp only [List.append_assoc]; exact h)) (fun e he => by simp [SM.out e he]) (fun e he => .inl (by simp [he])) CL1.out k1 q1 k2 q2 F1.out F2.out YF1.out B1.out B2.out Y81.out
              rw [HE2.out, HY2.out] at this
              try simp only [List.append_assoc] at this
              exact this)
            go_wp2_with fail
            clear z0 z1 z2 z3 z4 z5
            have S10 := Lib.hid S9.out.drew; clear S9
            go_region_held3 (fun w' => w'.cell? ⟨xb, 0, none⟩ = some (.slice A1 n1 c1) ∧ w'.cell? ⟨xb, 1, none⟩ = some (.slice A2 n2 c2) ∧ w'.cell? ⟨xb, 2, none⟩ = some (.slice A3 n3 c3) ∧ w'.cell? ⟨xb, 3, none⟩ = some (.int .i64 f) ∧ w'.cell? ⟨xb, 4, none⟩ = some (.int .i64 t) ∧ w'.cell? ⟨xb, 5, none⟩ = some (.int .i64 u)) (first | exact HC.out _ _ S10.out (by simp) | exact HC.out _ _ S11.out (by simp) | exact HC.out _ _ S12.out (by simp) | exact HC.out _ _ S13.out (by simp) | exact HC.out _ _ S14.out (by simp) | exact HC.out _ _ S15.out (by simp) | exact HC.out _ _ S16.out (by simp) | exact HC.out _ _ S17.out (by simp) | exact HC.out _ _ S18.out (by simp) | go_keep) (first
              | (go_at_call 13; (with_reducible refine (copies_st L1.out F1.out (S10.out.extL R1.out)).mono ?_); rintro e w11 ⟨AR, cR, bsR, GR, rfl, hc, hh⟩; have K11 := Lib.hid hh; have C11 := Lib.hid hc; clear hc; have h11 := S10.out.call hh; clear hh; (try simp only [List.nil_append, List.cons_append, List.append_eq, Int.toNat_natCast] at h11); have S11 := Lib.hid h11; clear h11)
              | (go_at_call 13; (with_reducible refine (copies_st L2.out F2.out (S11.out.extL R2.out)).mono ?_); rintro e w12 ⟨AS, cS, bsS, GS, rfl, hc, hh⟩; have K12 := Lib.hid hh; have C12 := Lib.hid hc; clear hc; have h12 := S11.out.call hh; clear hh S11; (try simp only [List.nil_append, List.cons_append, List.append_eq, Int.toNat_natCast] at h12); have S12 := Lib.hid h12; clear h12)
              | (go_at_call 14; (with_reducible refine (HAP1.out _ _ _ _ _ _ _ _ _ _ _ S10.out K11.out C11.out K12.out C12.out).mono ?_); rintro e w13 ⟨rfl, hh⟩; have S13 := Lib.hid hh; clear hh C11 C12 K11 K12 S10 S12))
            go_wp2_with fail
            have S14 := Lib.hid S13.out.drew; clear S13
            go_region_held3 (fun w' => w'.cell? ⟨xb, 0, none⟩ = some (.slice A1 n1 c1) ∧ w'.cell? ⟨xb, 1, none⟩ = some (.slice A2 n2 c2) ∧ w'.cell? ⟨xb, 2, none⟩ = some (.slice A3 n3 c3) ∧ w'.cell? ⟨xb, 3, none⟩ = some (.int .i64 f) ∧ w'.cell? ⟨xb, 4, none⟩ = some (.int .i64 t) ∧ w'.cell? ⟨xb, 5, none⟩ = some (.int .i64 u)) (first | exact HC.out _ _ S14.out (by simp) | exact HC.out _ _ S15.out (by simp) | exact HC.out _ _ S16.out (by simp) | exact HC.out _ _ S17.out (by simp) | exact HC.out _ _ S18.out (by simp) | exact HC.out _ _ S19.out (by simp) | exact HC.out _ _ S20.out (by simp) | exact HC.out _ _ S21.out (by simp) | exact HC.out _ _ S22.out (by simp) | go_keep) (first
              | (go_at_call 13; (with_reducible refine (copies_st L1.out F1.out (S14.out.extL R1.out)).mono ?_); rintro e w15 ⟨AR, cR, bsR, GR, rfl, hc, hh⟩; have K15 := Lib.hid hh; have C15 := Lib.hid hc; clear hc; have h15 := S14.out.call hh; clear hh; (try simp only [List.nil_append, List.cons_append, List.append_eq, Int.toNat_natCast] at h15); have S15 := Lib.hid h15; clear h15)
              | (go_at_call 13; (with_reducible refine (copies_st L2.out F2.out (S15.out.extL R2.out)).mono ?_); rintro e w16 ⟨AS, cS, bsS, GS, rfl, hc, hh⟩; have K16 := Lib.hid hh; have C16 := Lib.hid hc; clear hc; have h16 := S15.out.call hh; clear hh S15; (try simp only [List.nil_append, List.cons_append, List.append_eq, Int.toNat_natCast] at h16); have S16 := Lib.hid h16; clear h16)
              | (go_at_call 14; (with_reducible refine (HAP2.out _ _ _ _ _ _ _ _ _ _ _ S14.out K15.out C15.out K16.out C16.out).mono ?_); rintro e w17 ⟨rfl, hh⟩; have S17 := Lib.hid hh; clear hh C15 C16 K15 K16 S14 S16))
            have CLY := Lib.hid (CL.out.len YL.out)
            have CWY := Lib.hid (CW.out.len YL.out)
            have LY : Hid (Y.length = n3) := Lib.hid (by rw [len_len YL.out, L3.out])
            go_wp2_with fail
            refine (all_same LY.out YF.out Y8.out (CLY.out.rd0 S17.out (fun e he => by simp [he]) (fun e he => by simp [he])) (CWY.out.rd0 S17.out (fun e he => by simp [he]) (fun e he => by simp [he]))).mono ?_
            rintro e _ ⟨rfl, n18, rfl⟩
            have h18 := S17.out.drewN (n := n18); clear S17
            have S18 := Lib.hid h18; clear h18
            have SR := S18; clear S18
            go_wp2_with fail
            clear HAP HAP1 HAP2
            obtain ⟨NN, hNN⟩ : ∃ NN, Hid (GL ++ (ents bsL Y ++ (GW ++ (ents bsW Y ++ (⟨xb, 24, sumsC A1 A2 A3 n1 n2 n3 c1 c2 c3 f t u⟩ :: K)))) = NN) := ⟨_, Lib.hid rfl⟩
            rw [hNN.out] at SR
            have HMB : Hid ((⟨xb, 24, sumsC A1 A2 A3 n1 n2 n3 c1 c2 c3 f t u⟩ : Ent) ∈ NN) := Lib.hid (by rw [← hNN.out]; simp)
            have HMG : Hid (∀ e ∈ GW, e ∈ NN) := Lib.hid (fun e he => by rw [← hNN.out]; simp [he])
            have HME : Hid (∀ e ∈ ents bsW Y, e ∈ NN) := Lib.hid (fun e he => by rw [← hNN.out]; simp [he])
            have HSUB : Hid ((⟨xb, 24, sumsC A1 A2 A3 n1 n2 n3 c1 c2 c3 f t u⟩ :: K).Sublist NN) := Lib.hid (by rw [← hNN.out]; exact (((List.sublist_append_right (ents bsW Y) _).trans (List.sublist_append_right GW _)).trans (List.sublist_append_right (ents bsL Y) _)).trans (List.sublist_append_right GL _))
            go_loopw [101] (fun vi wq => ∃ r : Nat, r ≤ n3 ∧ vi = .int .i64 r ∧ St w0 wq [] NN) (fun vi _ => n3 - (intOf vi).toNat)
            case atStart => exact ⟨0, by omega, rfl, SR.out⟩
            case round =>
              clear SR
              obtain ⟨r, hr, rfl, hs⟩ := hrel
              have S5 := Lib.hid hs; clear hs
              by_cases hrn : r < n3
              · have HYl := Lib.hid (len_getD YL.out r)
                have HAG := Lib.hid (fun (j : Nat) => appE_get (j := j) HE.out (show r < dsts.length by rw [L3.out]; exact hrn))
                have HAG2 : Hid (∀ j : Nat, ¬ (f ≤ (j : Int) ∧ (j : Int) < t) → (Y.getD r []).getD j 0 = (dsts.getD r []).getD j 0) := Lib.hid (fun j hj => by
                  have := HAG.out j
                  rw [HY.out, if_neg hj] at this
                  exact this)
                obtain ⟨b5, o5, B5, d5, e5, x5, g5, r5, _⟩ := R3.out.at (i := r) (by rw [L3.out]; exact hrn)
                have HW := Lib.hid (fun (w' : World) (hs : St w0 w' [] NN) => (CWY.out.rdV hs HMG.out) (by rw [sds_length CWY.out.1, LY.out]; omega))
                obtain ⟨b6, o6, e6, k6⟩ := HW.out _ S5.out
                have hsg := sds_get CWY.out.1 (show r < Y.length by rw [LY.out]; exact hrn)
                have HWC : Hid (∀ w' : World, St w0 w' [] NN → w'.cell? ⟨b6, o6 + r, none⟩ = some (.slice (some ⟨bsW.getD r 0, 0, none⟩) (Y.getD r []).length (Y.getD r []).length)) := Lib.hid (fun w' hs => by
                  obtain ⟨b7, o7, e7, k7⟩ := HW.out w' hs
                  rw [e6] at e7
                  injection e7 with e7; injection e7 with e71 e72 _
                  subst e71 e72
                  exact k7 r _ hsg)
                have HEM : Hid (bt (bsW.getD r 0) (Y.getD r []) ∈ NN) := Lib.hid (HME.out _ (ents_mem CWY.out.1 (by rw [LY.out]; exact hrn)))
                have H8Y := Lib.hid (Y8.out.get r)
                have H8D := Lib.hid (B3.out.get r)
                have HK5 := Lib.hid (fun (w' : World) (hs : St w0 w' [] NN) => (⟨by rw [hs.below.cell (p := ⟨b5, o5 + r, none⟩) (cell_lt x5)]; exact x5, hs.ext r5⟩ : w'.cell? ⟨b5, o5 + r, none⟩ = some (.slice B5 (dsts.getD r []).length d5) ∧ Rd w' B5 (dsts.getD r [])))
                clear k6 hsg x5 r5 g5
                subst e5 e6
                rw [HYl.out] at HWC
                have hlb := F3.out.get r
                obtain ⟨q, hq⟩ : ∃ q, Hid ((dsts.getD r []).length = q) := ⟨_, Lib.hid rfl⟩
                rw [hq.out] at HWC HK5 hlb HYl
                generalize Y.getD r [] = y at *
                generalize dsts.getD r [] = d at *
                generalize bsW.getD r 0 = bw at *
                obtain ⟨z0, z1, z2, z3, z4, z5⟩ := HC.out _ _ S5.out HMB.out
                have x6 := HWC.out _ S5.out
                have x5 := (HK5.out _ S5.out).1
                have i2 : (r : Int) < (n3 : Int) := by omega
                go_wp2_with fail
                go_quiet (fail)
                have S6 := Lib.hid (S5.out.drewN (n := nq)); clear S5
                go_wp2_with fail
                clear z0 z1 z2 z3 z4 z5 x6 x5
                go_loopw [121] (fun vi wq => ∃ j : Nat, j ≤ q ∧ vi = .int .i64 j ∧ St w0 wq [] NN) (fun vi _ => q - (intOf vi).toNat)
                case atStart => exact ⟨0, by omega, rfl, S6.out⟩
                case round =>
                  clear S6
                  obtain ⟨j, hj, rfl, hs⟩ := hrel
                  have S7 := Lib.hid hs; clear hs
                  by_cases hjq : j < q
                  · obtain ⟨z0, z1, z2, z3, z4, z5⟩ := HC.out _ _ S7.out HMB.out
                    have x6 := HWC.out _ S7.out
                    have x5 := (HK5.out _ S7.out).1
                    have x8 := (S7.out.blk HEM.out).cellRow (i := j) (by rw [HYl.out]; exact hjq)
                    obtain ⟨b9, o9, e9, k9⟩ := (HK5.out _ S7.out).2 (by rw [hq.out]; omega)
                    have x9 := k9 j (by rw [hq.out]; exact hjq)
                    subst e9
                    clear k9
                    have HO := Lib.hid (HAG2.out j)
                    have v1 := H8Y.out.get (i := j) (by rw [HYl.out]; exact hjq)
                    have v2 := H8D.out.get (i := j) (by rw [hq.out]; exact hjq)
                    generalize y.getD j 0 = va at *
                    generalize d.getD j 0 = vb at *
                    have i3 : (j : Int) < (q : Int) := by omega
                    by_cases j1 : (j : Int) < f
                    · have d3 : decide ((j : Int) < f) = true := by simpa using j1
                      obtain rfl : va = vb := HO.out (by omega)
                      clear j1
                      go_wp2_with fail
                      go_quiet (fail)
                      go_wp2_with fail
                      refine ⟨⟨j + 1, by omega, by simp, S7.out.drewN⟩, ?_⟩
                      simp [intOf]; omega
                    · have d3 : decide ((j : Int) < f) = false := by simpa using j1
                      by_cases j2 : t ≤ (j : Int)
                      · have d4 : decide (t ≤ (j : Int)) = true := by simpa using j2
                        obtain rfl : va = vb := HO.out (by omega)
                        clear j1 j2
                        go_wp2_with fail
                        go_quiet (fail)
                        go_wp2_with fail
                        refine ⟨⟨j + 1, by omega, by simp, S7.out.drewN⟩, ?_⟩
                        simp [intOf]; omega
                      · have d4 : decide (t ≤ (j : Int)) = false := by simpa using j2
                        clear j1 j2 HO
                        go_wp2_with fail
                        go_quiet (fail)
                        go_wp2_with fail
                        refine ⟨⟨j + 1, by omega, by simp, S7.out.drewN⟩, ?_⟩
                        simp [intOf]; omega
                  · obtain rfl : j = q := by omega
                    go_wp2_with fail
                    refine ⟨⟨r + 1, by omega, by simp, S7.out⟩, ?_⟩
                    simp [intOf]; omega
              · obtain rfl : r = n3 := by omega
                go_wp2_with fail
                refine ⟨⟨i + 1, by omega, by simp, S5.out.drop HSUB.out⟩, ?_⟩
                simp [intOf]; omega
      · have q1 : (E == 0) = false := by simpa using hE
        have q2 : (E != 0) = true := by rw [bne_iff_ne]; exact hE
        obtain rfl : Y = dsts := by
          rw [← HY.out]; unfold appE; rw [if_neg (by rw [HE.out]; exact hE)]
        clear hE
        have hcells := HC.out _ _ S9.out (by simp)
        obtain ⟨z0, z1, z2, z3, z4, z5⟩ := hcells
        go_wp2_with fail
        refine (all_same L3.out F3.out B3.out (CW.out.rd0 S9.out (fun e he => by simp [he]) (fun e he => by simp [he])) (S9.out.extL R3.out)).mono ?_
        rintro e _ ⟨rfl, n10, rfl⟩
        have h10 := S9.out.drewN (n := n10); clear S9
        have S10 := Lib.hid h10; clear h10
        go_wp2_with fail
        refine ⟨⟨i + 1, by omega, by simp, S10.out.drop ((((List.sublist_append_right (ents bsW Y) _).trans (List.sublist_append_right GW _)).trans (List.sublist_append_right (ents bsL Y) _)).trans (List.sublist_append_right GL _))⟩, ?_⟩
        simp [intOf]; omega
    · obtain rfl : i = 3 := by omega
      go_wp2_with fail
      go_ret
      exact ⟨rfl, S2.out.drop (List.sublist_cons_self _ _)⟩

end Go.Proofs.Ytdbfkjhdnbmpeaa.Sk
