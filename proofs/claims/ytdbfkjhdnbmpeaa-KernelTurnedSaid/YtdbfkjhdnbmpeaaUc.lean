/- Layer 9: the law KernelTurned (printed by gen/mk_tu.py). -/
import Derived.Test.YtdbfkjhdnbmpeaaUb
namespace Go.Proofs.Ytdbfkjhdnbmpeaa.Sk
set_option linter.unusedSimpArgs false
set_option linter.unusedVariables false
open Go Go.RowKit Go.Proofs.Ytdbfkjhdnbmpeaa Go.Proofs.Ytdbfkjhdnbmpeaa.Mm Go.Proofs.Ytdbfkjhdnbmpeaa.Gf Go.Proofs.Ytdbfkjhdnbmpeaa.Wr Go.Proofs.Ytdbfkjhdnbmpeaa.Nb Go.Proofs.Ytdbfkjhdnbmpeaa.St

theorem sets_more {b : Nat} {K K' : List Ent} (h : Sets3 b K) (hk : ∀ e ∈ K, e ∈ K') : Sets3 b K' := fun i hi => by
  obtain ⟨p, S, h1, h2, h3⟩ := h i hi
  exact ⟨p, S, h1, fun e he => hk e (h2 e he), fun w0 w N hs hK => h3 w0 w N hs (fun e he => hK e (hk e he))⟩
section
variable {p j : Nat} {GR GS GT GC K S Z M : List Ent} {bsR bsS bsT : List Nat} {R Q T : List (List Nat)} {w0 w wA : World} {A1 A2 A3 : Option Addr} {n1 n2 n3 c1 c2 c3 r2 : Nat} {f t : Int} {col diff : List Nat}
/-- Apply by fresh rows over slices at hand. -/
theorem tu_app (SE : SetE p j S) (h : St w0 w [] (Z ++ (GT ++ (ents bsT T ++ M)))) (hS : ∀ e ∈ S, e ∈ M) (hZ : ∀ e ∈ GS ++ ents bsS Q, e ∈ Z) (k1 : St w wA [] (GR ++ ents bsR R)) (cR : CopyL A1 n1 c1 bsR R GR) (cS : CopyL A2 n2 c2 bsS Q GS) (cT : CopyL A3 n3 c3 bsT T GT)
    (hf1 : Fit R) (hf2 : Fit Q) (hf3 : Fit T) (h81 : B8L R) (h82 : B8L Q) (h83 : B8L T) :
    Calls Try.prog 14 #[.pointer (some ⟨p, 0, none⟩), .slice A1 n1 c1, .slice A2 n2 c2, .slice A3 n3 c3, .agg #[.int .i64 f, .int .i64 t]] wA fun e w' => e = .returned (.int .i64 (fitsE R Q T f t)) ∧ St w0 w' [] (Z ++ (GT ++ (ents bsT (appE R Q T f t) ++ M))) := by
  have h0 : St w0 wA [] ((GR ++ ents bsR R) ++ (Z ++ (GT ++ (ents bsT T ++ M)))) := h.call k1
  have h1 : St w0 wA [] ((GR ++ ents bsR R) ++ ((Z ++ GT) ++ (ents bsT T ++ M))) := by simpa only [List.append_assoc] using h0
  have h2 : St w0 wA [] (((GR ++ ents bsR R) ++ Z) ++ (GT ++ (ents bsT T ++ M))) := by simpa only [List.append_assoc] using h0
  have h3 : St w0 wA [] (((GR ++ ents bsR R) ++ (Z ++ GT)) ++ (ents bsT T ++ M)) := by simpa only [List.append_assoc] using h0
  have hx1 : ∀ b ∈ bsT, ∃ e ∈ (Z ++ GT) ++ (ents bsT T ++ M), e.b = b := fun b hb => by
    obtain ⟨e, he, hb⟩ := ents_of cT.1 hb
    exact ⟨e, by simp [he], hb⟩
  have hx2 : ∀ b ∈ bsT, ∃ e ∈ GT ++ (ents bsT T ++ M), e.b = b := fun b hb => by
    obtain ⟨e, he, hb⟩ := ents_of cT.1 hb
    exact ⟨e, by simp [he], hb⟩
  refine (applyS SE h1 (fun e he => by simp [hS e he]) cR.2.1.symm cS.2.1.symm cT.2.1.symm hf1 hf2 hf3 h81 h82 h83 cT.1 (cR.rdT h1 (fun e he => by simp [he]) (fun e he => by simp [he]) hx1) (cS.rdT h2 (fun e he => List.mem_append_right _ (hZ e (List.mem_append_left _ he))) (fun e he => List.mem_append_right _ (hZ e (List.mem_append_right _ he))) hx2) (cT.rdV h1 (fun e he => by simp [he])) (cT.off fun e he hb => ?_)).mono fun e w' ⟨he, hs⟩ => ⟨he, by simpa only [List.append_assoc] using hs⟩
  obtain ⟨e', he', hb'⟩ := ents_of cT.1 hb
  exact h3.apart (e := e) (e' := e') (by simp [he]) (by simp [he']) hb'.symm
/-- Spread by a list that grew, and a fresh difference. -/
theorem tu_spr (SE : SetE p j S) (h : St w0 w [] (Z ++ (GT ++ (ents bsT T ++ M)))) (hS : ∀ e ∈ S, e ∈ M) (hZ : ∀ e ∈ GC, e ∈ Z) (hg : GrowB (.slice A1 n1 c1) col GC) (hcl : col.length = T.length) (k2 : St w wA [] [bt r2 diff]) (cT : CopyL A3 n3 c3 bsT T GT)
    (h1 : col.length = n1) (h2 : diff.length = n2) (hf3 : Fit T) (hn2 : n2 ≤ 140737488351232) (h81 : B8 col) (h82 : B8 diff) (h83 : B8L T) :
    Calls Try.prog 19 #[.pointer (some ⟨p, 0, none⟩), .slice A1 n1 c1, .slice (some ⟨r2, 0, none⟩) n2 n2, .slice A3 n3 c3, .agg #[.int .i64 f, .int .i64 t]] wA fun e w' => e = .returned (.int .i64 (sprE col diff T f t)) ∧ St w0 w' [] (Z ++ (GT ++ (ents bsT (sprD col diff T f t) ++ M))) := by
  have h0 : St w0 wA [] ([bt r2 diff] ++ (Z ++ (GT ++ (ents bsT T ++ M)))) := h.call k2
  have hh : St w0 wA [] ([bt r2 diff] ++ ((Z ++ GT) ++ (ents bsT T ++ M))) := by simpa only [List.append_assoc] using h0
  have h3 : St w0 wA [] (([bt r2 diff] ++ (Z ++ GT)) ++ (ents bsT T ++ M)) := by simpa only [List.append_assoc] using h0
  have hx : ∀ b ∈ bsT, ∃ e ∈ (Z ++ GT) ++ (ents bsT T ++ M), e.b = b := fun b hb => by
    obtain ⟨e, he, hb⟩ := ents_of cT.1 hb
    exact ⟨e, by simp [he], hb⟩
  have ho : Off bsT A1 := by
    rcases hg.2 with ⟨B, e, h0, _⟩ | ⟨g, cap, cur, e, _, _, _, _, _, hG⟩
    · have hb : bsT = [] := List.eq_nil_of_length_eq_zero (by rw [cT.1, ← hcl]; exact h0)
      rw [hb]; exact Off.nil _
    · injection e with e1 e2 e3
      rw [e1]
      refine Off.some fun hb => ?_
      obtain ⟨e', he', hb'⟩ := ents_of cT.1 hb
      have m1 := hZ ⟨g, 5, cur⟩ (by rw [hG]; simp)
      exact h3.apart (e := ⟨g, 5, cur⟩) (e' := e') (by simp [m1]) (by simp [he']) hb'.symm
  have hr : Rd wA A1 col := by
    subst h1
    exact hg.read h0 (fun e he => by simp [hZ e he])
  refine (spreadS SE hh (fun e he => by simp [hS e he]) h1 h2 cT.2.1.symm hf3 hn2 (Nat.le_refl _) h81 h82 h83 cT.1 ⟨hr, ho⟩ (hh.rdT (by simp) hx) (cT.rdV hh (fun e he => by simp [he])) (cT.off fun e he hb => ?_)).mono fun e w' ⟨he, hs⟩ => ⟨he, by simpa only [List.append_assoc] using hs⟩
  obtain ⟨e', he', hb'⟩ := ents_of cT.1 hb
  exact h3.apart (e := e) (e' := e') (by simp [he]) (by simp [he']) hb'.symm
end

set_option maxRecDepth 100000 in
set_option maxHeartbeats 8000000 in
theorem turned_calls {w0 : World} {A1 A2 A3 Ad : Option Addr} {n1 n2 n3 nd c1 c2 c3 cd : Nat} {f t u which : Int} {rows srcs dsts : List (List Nat)} {diff : List Nat} (l1 : rows.length = n1) (l2 : srcs.length = n2) (l3 : dsts.length = n3) (ld : diff.length = nd) (ud : nd ≤ 140737488351232) (r1 : RdL w0 [] A1 rows) (f1 : Fit rows) (b1 : B8L rows) (r2 : RdL w0 [] A2 srcs) (f2 : Fit srcs) (b2 : B8L srcs) (r3 : RdL w0 [] A3 dsts) (f3 : Fit dsts) (b3 : B8L dsts) (rd : Rd w0 Ad diff) (bd : B8 diff) :
    Calls Try.prog 5 #[.agg (sumsC A1 A2 A3 n1 n2 n3 c1 c2 c3 f t u), .int .i64 which, .slice Ad nd cd] w0 fun e w' => e = .returned (.bool true) ∧ St w0 w' [] [] := by
  have S0 := Lib.hid (St.start w0); have L1 := Lib.hid l1; have L2 := Lib.hid l2; have L3 := Lib.hid l3; have LD := Lib.hid ld; have R1 := Lib.hid r1; have R2 := Lib.hid r2; have R3 := Lib.hid r3; have RD := Lib.hid rd; have F1 := Lib.hid f1; have F2 := Lib.hid f2; have F3 := Lib.hid f3; have B1 := Lib.hid b1; have B2 := Lib.hid b2; have B3 := Lib.hid b3; have BD := Lib.hid bd
  have un1 : n1 ≤ 140737488351232 := by have := f1.1; omega
  have un2 : n2 ≤ 140737488351232 := by have := f2.1; omega
  clear l1 l2 l3 ld r1 r2 r3 rd f1 f2 f3 b1 b2 b3 bd
  go_enter Try.func5, Try.ntmps5
  go_wp2_with ((with_reducible refine at_slot (N := 3) rfl ?_); refine box_law rfl _ _ (sumsC A1 A2 A3 n1 n2 n3 c1 c2 c3 f t u) rfl rfl S0.out ?_; intro xb w1 h1; (try simp only [World.size_alloc, List.nil_append, List.cons_append, List.append_eq] at h1); have S1 := Lib.hid h1; clear h1 S0)
  refine (sets3_st _).mono ?_
  rintro e w2 ⟨lb, cl, K0, rfl, hq3, hh⟩
  have h2 := S1.out.call hh; clear hh S1
  try simp only [List.nil_append, List.cons_append, List.append_eq, Int.toNat_natCast] at h2
  have H30 := Lib.hid hq3; clear hq3
  have S2 := Lib.hid h2; clear h2
  go_wp2_with fail
  refine (fixed_st _).mono ?_
  rintro e w3 ⟨rfl, hh⟩
  have h3 := S2.out.call hh; clear hh S2
  try simp only [List.nil_append, List.cons_append, List.append_eq, Int.toNat_natCast] at h3
  have S3 := Lib.hid h3; clear h3
  obtain ⟨K1, hK1⟩ : ∃ K1, Hid (K0 ++ [⟨xb, 24, sumsC A1 A2 A3 n1 n2 n3 c1 c2 c3 f t u⟩] = K1) := ⟨_, Lib.hid rfl⟩
  have H31 : Hid (Sets3 lb K1) := Lib.hid (sets_more H30.out (fun e he => by rw [← hK1.out]; simp [he]))
  have HB1 : Hid ((⟨xb, 24, sumsC A1 A2 A3 n1 n2 n3 c1 c2 c3 f t u⟩ : Ent) ∈ K1) := Lib.hid (by rw [← hK1.out]; simp)
  have S5 : Hid (St w0 w3 [] K1) := Lib.hid (by rw [← hK1.out]; exact S3.out)
  clear H30 hK1
  obtain ⟨z0, z1, z2, z3, z4, z5⟩ := sums_cells S5.out HB1.out
  go_wp2_with fail
  have S7 := Lib.hid (S5.out.alloc 32 #[.int .i64 f, .int .i64 t]); clear S5 z0 z1 z2 z3 z4 z5
  generalize w3.heap.size = sb at *
  generalize w3.alloc (.cells #[.int .i64 f, .int .i64 t] 32 (0, 0)) = w7 at *
  obtain ⟨KX, HKX⟩ : ∃ KX, Hid ((⟨sb, 32, #[.int .i64 f, .int .i64 t]⟩ : Ent) :: K1 = KX) := ⟨_, Lib.hid rfl⟩
  rw [HKX.out] at S7
  have HC : Hid (∀ (w' : World) (N' : List Ent), St w0 w' [] N' → (∀ e ∈ KX, e ∈ N') → w'.cell? ⟨xb, 0, none⟩ = some (.slice A1 n1 c1) ∧ w'.cell? ⟨xb, 1, none⟩ = some (.slice A2 n2 c2) ∧ w'.cell? ⟨xb, 2, none⟩ = some (.slice A3 n3 c3) ∧ w'.cell? ⟨xb, 3, none⟩ = some (.int .i64 f) ∧ w'.cell? ⟨xb, 4, none⟩ = some (.int .i64 t) ∧ w'.cell? ⟨xb, 5, none⟩ = some (.int .i64 u) ∧ w'.cell? ⟨sb, 0, none⟩ = some (.int .i64 f) ∧ w'.cell? ⟨sb, 1, none⟩ = some (.int .i64 t)) := Lib.hid (fun w' N' hs hm => by
    have m1 : (⟨sb, 32, #[.int .i64 f, .int .i64 t]⟩ : Ent) ∈ N' := hm _ (by rw [← HKX.out]; simp)
    obtain ⟨g0, g1, g2, g3, g4, g5⟩ := sums_cells hs (hm ⟨xb, 24, sumsC A1 A2 A3 n1 n2 n3 c1 c2 c3 f t u⟩ (by rw [← HKX.out]; simp [HB1.out]))
    exact ⟨g0, g1, g2, g3, g4, g5, (hs.blk m1).cell (i := 0) rfl, (hs.blk m1).cell (i := 1) rfl⟩)
  have HCS : Hid (∀ (w' : World) (N' : List Ent), St w0 w' [] N' → (∀ e ∈ KX, e ∈ N') → w'.cell? ⟨sb, 0, none⟩ = some (.int .i64 f) ∧ w'.cell? ⟨sb, 1, none⟩ = some (.int .i64 t)) := Lib.hid (fun w' N' hs hm => (HC.out w' N' hs hm).2.2.2.2.2.2)
  have H32 : Hid (Sets3 lb KX) := Lib.hid (sets_more H31.out (fun e he => by rw [← HKX.out]; simp [he]))
  clear HKX HB1 H31
  obtain ⟨E, HE⟩ : ∃ E, Hid (fitsE rows srcs dsts f t = E) := ⟨_, Lib.hid rfl⟩
  obtain ⟨Y, HY⟩ : ∃ Y, Hid (appE rows srcs dsts f t = Y) := ⟨_, Lib.hid rfl⟩
  have YL : Hid (Y.map (·.length) = dsts.map (·.length)) := Lib.hid (by rw [← HY.out]; exact appE_len)
  have Y8 : Hid (B8L Y) := Lib.hid (by rw [← HY.out]; exact appE_b8 B1.out B3.out)
  have YF := Lib.hid (F3.out.len YL.out)
  go_loopw [36] (fun vi wq => ∃ i : Nat, i ≤ 3 ∧ vi = .int .i64 i ∧ St w0 wq [] KX) (fun vi _ => 3 - (intOf vi).toNat)
  case atStart => exact ⟨0, by omega, rfl, S7.out⟩
  case round =>
    clear S7
    obtain ⟨i, hi, rfl, hs⟩ := hrel
    have S2 := Lib.hid hs; clear hs
    by_cases hlt : i < 3
    · obtain ⟨p, S, hSE, hSM, hcell⟩ := H32.out i hlt
      have SE := Lib.hid hSE; have SM := Lib.hid hSM
      have x4 := hcell _ _ _ S2.out (fun e he => he)
      obtain ⟨z0, z1, z2, z3, z4, z5, -, -⟩ := HC.out _ _ S2.out (fun e he => he)
      clear hSE hSM hcell
      have i1 : (i : Int) < 3 := by omega
      go_wp2_with fail
      refine (anew_st (w := wr) (u := u) SE.out S2.out SM.out L1.out L2.out L3.out LD.out ud R1.out F1.out B1.out R2.out F2.out B2.out R3.out F3.out B3.out RD.out BD.out).mono ?_
      rintro e w3 ⟨rfl, hh⟩
      have S3 := Lib.hid hh; clear hh S2
      clear x4 z0 z1 z2 z3 z4 z5
      go_wp2_with fail
      have S4 := Lib.hid S3.out.drew; clear S3
      go_region_held3 (fun w' => w'.cell? ⟨xb, 0, none⟩ = some (.slice A1 n1 c1) ∧ w'.cell? ⟨xb, 1, none⟩ = some (.slice A2 n2 c2) ∧ w'.cell? ⟨xb, 2, none⟩ = some (.slice A3 n3 c3) ∧ w'.cell? ⟨xb, 3, none⟩ = some (.int .i64 f) ∧ w'.cell? ⟨xb, 4, none⟩ = some (.int .i64 t) ∧ w'.cell? ⟨xb, 5, none⟩ = some (.int .i64 u) ∧ w'.cell? ⟨sb, 0, none⟩ = some (.int .i64 f) ∧ w'.cell? ⟨sb, 1, none⟩ = some (.int .i64 t)) (first | exact HC.out _ _ S4.out (by intro e he; simp [he]) | exact HC.out _ _ S5.out (by intro e he; simp [he]) | exact HC.out _ _ S6.out (by intro e he; simp [he]) | exact HC.out _ _ S7.out (by intro e he; simp [he]) | exact HC.out _ _ S8.out (by intro e he; simp [he]) | exact HC.out _ _ S9.out (by intro e he; simp [he]) | exact HC.out _ _ S10.out (by intro e he; simp [he]) | exact HC.out _ _ S11.out (by intro e he; simp [he]) | exact HC.out _ _ S12.out (by intro e he; simp [he]) | go_keep) (first
        | (go_at_call 13; (with_reducible refine (copies_st L3.out F3.out (S4.out.extL R3.out)).mono ?_); rintro e w5 ⟨AO, cO, bsO, GO, rfl, hc, hh⟩; have K5 := Lib.hid hh; have C5 := Lib.hid hc; clear hc; have h5 := S4.out.call hh; clear hh; (try simp only [List.nil_append, List.cons_append, List.append_eq, Int.toNat_natCast] at h5); have S5 := Lib.hid h5; clear h5)
        | (go_at_call 13; (with_reducible refine (copies_st L3.out F3.out (S5.out.extL R3.out)).mono ?_); rintro e w6 ⟨AF, cF, bsF, GF, rfl, hc, hh⟩; have K6 := Lib.hid hh; have C6 := Lib.hid hc; clear hc; have h6 := S5.out.call hh; clear hh S5; (try simp only [List.nil_append, List.cons_append, List.append_eq, Int.toNat_natCast] at h6); have S6 := Lib.hid h6; clear h6))
      have S7 : Hid (St w0 w6 [] (GF ++ (ents bsF dsts ++ (GO ++ (ents bsO dsts ++ KX))))) := Lib.hid (by simpa only [List.append_assoc] using S6.out)
      have CO := C5; have CF := C6
      clear S4 S6 K5 K6 C5 C6
      have HAP : Hid (∀ (w wA wB : World) (AR AS : Option Addr) (cR cS : Nat) (bsR bsS : List Nat) (GR GS : List Ent), St w0 w [] (GF ++ (ents bsF dsts ++ (GO ++ (ents bsO dsts ++ KX)))) → St w wA [] (GR ++ ents bsR rows) → CopyL AR n1 cR bsR rows GR → St wA wB [] (GS ++ ents bsS srcs) → CopyL AS n2 cS bsS srcs GS →
        Calls Try.prog 14 #[.pointer (some ⟨p, 0, none⟩), .slice AR n1 cR, .slice AS n2 cS, .slice AO n3 cO, .agg #[.int .i64 f, .int .i64 t]] wB fun e w' => e = .returned (.int .i64 E) ∧ St w0 w' [] (GF ++ (ents bsF dsts ++ (GO ++ (ents bsO Y ++ KX))))) := Lib.hid (fun w wA wB AR AS cR cS bsR bsS GR GS h k1 q1 k2 q2 => by
        have := applyC (f := f) (t := t) (M1 := GF ++ (ents bsF dsts ++ GO)) (M2 := KX) SE.out (by simp only [List.append_assoc]; exact h) (fun e he => by simp [SM.out e he]) (fun e he => .inl (by simp [he])) CO.out k1 q1 k2 q2 F1.out F2.out F3.out B1.out B2.out B3.out
        rw [HE.out, HY.out] at this
        try simp only [List.append_assoc] at this
        exact this)
      go_wp2_with fail
      have S8 := Lib.hid S7.out.drew; clear S7
      go_region_held3 (fun w' => w'.cell? ⟨xb, 0, none⟩ = some (.slice A1 n1 c1) ∧ w'.cell? ⟨xb, 1, none⟩ = some (.slice A2 n2 c2) ∧ w'.cell? ⟨xb, 2, none⟩ = some (.slice A3 n3 c3) ∧ w'.cell? ⟨xb, 3, none⟩ = some (.int .i64 f) ∧ w'.cell? ⟨xb, 4, none⟩ = some (.int .i64 t) ∧ w'.cell? ⟨xb, 5, none⟩ = some (.int .i64 u) ∧ w'.cell? ⟨sb, 0, none⟩ = some (.int .i64 f) ∧ w'.cell? ⟨sb, 1, none⟩ = some (.int .i64 t)) (first | exact HC.out _ _ S8.out (by intro e he; simp [he]) | exact HC.out _ _ S9.out (by intro e he; simp [he]) | exact HC.out _ _ S10.out (by intro e he; simp [he]) | exact HC.out _ _ S11.out (by intro e he; simp [he]) | exact HC.out _ _ S12.out (by intro e he; simp [he]) | exact HC.out _ _ S13.out (by intro e he; simp [he]) | exact HC.out _ _ S14.out (by intro e he; simp [he]) | exact HC.out _ _ S15.out (by intro e he; simp [he]) | exact HC.out _ _ S16.out (by intro e he; simp [he]) | go_keep) (first
        | (go_at_call 13; (with_reducible refine (copies_st L1.out F1.out (S8.out.extL R1.out)).mono ?_); rintro e w9 ⟨AR, cR, bsR, GR, rfl, hc, hh⟩; have K9 := Lib.hid hh; have C9 := Lib.hid hc; clear hc; have h9 := S8.out.call hh; clear hh; (try simp only [List.nil_append, List.cons_append, List.append_eq, Int.toNat_natCast] at h9); have S9 := Lib.hid h9; clear h9)
        | (go_at_call 13; (with_reducible refine (copies_st L2.out F2.out (S9.out.extL R2.out)).mono ?_); rintro e w10 ⟨AS, cS, bsS, GS, rfl, hc, hh⟩; have K10 := Lib.hid hh; have C10 := Lib.hid hc; clear hc; have h10 := S9.out.call hh; clear hh S9; (try simp only [List.nil_append, List.cons_append, List.append_eq, Int.toNat_natCast] at h10); have S10 := Lib.hid h10; clear h10)
        | (go_at_call 14; (with_reducible refine (HAP.out _ _ _ _ _ _ _ _ _ _ _ S8.out K9.out C9.out K10.out C10.out).mono ?_); rintro e w11 ⟨rfl, hh⟩; have S11 := Lib.hid hh; clear hh C10 C9 K10 K9 S10 S8))
      clear HAP
      have HSUB : Hid (KX.Sublist (GF ++ (ents bsF dsts ++ (GO ++ (ents bsO Y ++ KX))))) := Lib.hid ((((List.sublist_append_right (ents bsO Y) _).trans (List.sublist_append_right GO _)).trans (List.sublist_append_right (ents bsF dsts) _)).trans (List.sublist_append_right GF _))
      have COY := Lib.hid (CO.out.len YL.out)
      by_cases hE : E = 0
      · obtain rfl : E = 0 := hE
        obtain ⟨z0, z1, z2, z3, z4, z5, -, -⟩ := HC.out _ _ S11.out (fun e he => by simp [he])
        by_cases h1 : which < 0
        · have d1 : decide (which < 0) = true := by simpa using h1
          clear h1
          go_wp2_with fail
          refine ⟨⟨i + 1, by omega, by simp, S11.out.drop HSUB.out⟩, ?_⟩
          simp [intOf]; omega
        · have d1 : decide (which < 0) = false := by simpa using h1
          by_cases h2 : (n2 : Int) ≤ which
          · have d2 : decide ((n2 : Int) ≤ which) = true := by simpa using h2
            clear h1 h2
            go_wp2_with fail
            refine ⟨⟨i + 1, by omega, by simp, S11.out.drop HSUB.out⟩, ?_⟩
            simp [intOf]; omega
          · have d2 : decide ((n2 : Int) ≤ which) = false := by simpa using h2
            obtain ⟨a, rfl⟩ := Int.eq_ofNat_of_zero_le (show 0 ≤ which by omega)
            have ha : a < n2 := by omega
            have a1 : (a : Int) < (n2 : Int) := by omega
            obtain ⟨b6, o6, B6, c6, e6, x6, -, -, -⟩ := (S11.out.extL R2.out).at (i := a) (by rw [L2.out]; exact ha)
            subst e6
            obtain ⟨q, hq⟩ : ∃ q, Hid ((srcs.getD a []).length = q) := ⟨_, Lib.hid rfl⟩
            rw [hq.out] at x6
            clear h1 h2
            by_cases h4 : nd = q
            · subst h4
              obtain ⟨Q2, HQ2⟩ : ∃ Q, Hid (srcs.set a (xs (srcs.getD a []) diff) = Q) := ⟨_, Lib.hid rfl⟩
              obtain ⟨col, HCOL⟩ : ∃ c, Hid ((rows.map fun r => r.getD a 0) = c) := ⟨_, Lib.hid rfl⟩
              obtain ⟨Z, HZ⟩ : ∃ Z, Hid (appE rows Q2 dsts f t = Z) := ⟨_, Lib.hid rfl⟩
              have HSP := Lib.hid (spr_app HE.out (show a < srcs.length by rw [L2.out]; exact ha) (show diff.length = (srcs.getD a []).length by rw [LD.out, hq.out]))
              rw [HCOL.out, HQ2.out, HY.out, HZ.out] at HSP
              have Q2L : Hid (Q2.map (·.length) = srcs.map (·.length)) := Lib.hid (by rw [← HQ2.out]; exact map_len_set (by rw [xs_length]))
              have Q28 : Hid (B8L Q2) := Lib.hid (by rw [← HQ2.out]; exact B2.out.set a (xs_b8 (B2.out.get a) BD.out (by rw [hq.out, LD.out])))
              have Q2F := Lib.hid (F2.out.len Q2L.out)
              have HF2 : Hid (fitsE rows Q2 dsts f t = 0) := Lib.hid (by rw [fitsE_lens rfl Q2L.out]; exact HE.out)
              have ZL : Hid (Z.map (·.length) = dsts.map (·.length)) := Lib.hid (by rw [← HZ.out]; exact appE_len)
              have Z8 : Hid (B8L Z) := Lib.hid (by rw [← HZ.out]; exact appE_b8 B1.out B3.out)
              have ZF := Lib.hid (F3.out.len ZL.out)
              have HRL : Hid (∀ k, k < n1 → (rows.getD k []).length = n2) := Lib.hid (fun k hk => by rw [(fits_zero HE.out).1.2.1 _ (mem_getD (by rw [L1.out]; exact hk)), L2.out])
              have HCG : Hid (∀ k, k < n1 → (rows.getD k []).getD a 0 = col.getD k 0) := Lib.hid (fun k hk => by rw [← HCOL.out, getD_map0 (by rw [L1.out]; exact hk)])
              have LC : Hid (col.length = n1) := Lib.hid (by rw [← HCOL.out, List.length_map, L1.out])
              have C8 : Hid (B8 col) := Lib.hid (fun x hx => by
                rw [← HCOL.out] at hx
                obtain ⟨r, hr, rfl⟩ := List.mem_map.1 hx
                exact get_lt (B1.out r hr) a)
              have HCY : Hid (col.length = Y.length) := Lib.hid (by rw [LC.out, len_len YL.out, ← (fits_zero HE.out).1.1, L1.out])
              have HA1 : Hid (∀ (w w' : World), w = w' → w = w') := Lib.hid (fun _ _ h => h)
              clear HA1
              go_wp2_with fail
              refine (copies_st L2.out F2.out (S11.out.extL R2.out)).mono ?_
              rintro e w12 ⟨AS, cS, bsS, GS, rfl, hcs, hh⟩
              have h12 := S11.out.call hh; clear hh S11
              try simp only [List.nil_append, List.cons_append, List.append_eq, Int.toNat_natCast] at h12
              have CS := Lib.hid hcs; clear hcs
              have S12 := Lib.hid h12; clear h12
              clear x6 z0 z1 z2 z3 z4 z5
              have S13 : Hid (St w0 w12 [] (GS ++ (ents bsS srcs ++ (GF ++ (ents bsF dsts ++ (GO ++ (ents bsO Y ++ KX))))))) := Lib.hid (by simpa only [List.append_assoc] using S12.out)
              clear S12
              obtain ⟨P, Q, hP, hQ⟩ := ents_split (bs := bsS) (L := srcs) (i := a) CS.out.1 (by rw [L2.out]; exact ha)
              obtain ⟨hb, ho, he6, hk6⟩ := CopyL.hdr CS.out ha S13.out (fun e he => by simp [he])
              have hQ2 := hQ (xs (srcs.getD a []) diff)
              rw [HQ2.out] at hQ2
              have CS2 := Lib.hid (CopyL.len CS.out Q2L.out)
              subst he6
              rw [hq.out] at hk6
              have HK6 := Lib.hid hk6; have HP := Lib.hid hP; have HPQ := Lib.hid hQ2; clear hk6 hP hQ hQ2
              have B8a := Lib.hid (B2.out.get a)
              generalize srcs.getD a [] = l at *
              generalize bsS.getD a 0 = rb at *
              have HXOR : Hid (∀ (w wA : World) (r : Nat), St w0 w [] (GS ++ (ents bsS srcs ++ (GF ++ (ents bsF dsts ++ (GO ++ (ents bsO Y ++ KX)))))) → St w wA [] [bt r diff] →
                Calls Try.prog 22 #[.slice (some ⟨rb, 0, none⟩) nd nd, .slice (some ⟨r, 0, none⟩) nd nd] wA fun e w' => e = .returned (.int .i64 0) ∧ St w0 w' [] (GS ++ (ents bsS Q2 ++ (GF ++ (ents bsF dsts ++ (GO ++ (ents bsO Y ++ KX))))))) := Lib.hid (fun w wA r h k1 => by
                rw [HP.out] at h
                have := xorC (M1 := GS ++ P) (M2 := Q ++ (GF ++ (ents bsF dsts ++ (GO ++ (ents bsO Y ++ KX))))) (by simpa only [List.append_assoc, List.cons_append] using h) k1 hq.out B8a.out LD.out BD.out ud
                unfold lenE xorD at this
                rw [if_pos rfl, if_pos (by rw [hq.out, LD.out])] at this
                rw [HPQ.out]
                simpa only [List.append_assoc, List.cons_append] using this)
              have HAF : Hid (∀ (w wA : World) (AR : Option Addr) (cR : Nat) (bsR : List Nat) (GR : List Ent), St w0 w [] (GS ++ (ents bsS Q2 ++ (GF ++ (ents bsF dsts ++ (GO ++ (ents bsO Y ++ KX)))))) → St w wA [] (GR ++ ents bsR rows) → CopyL AR n1 cR bsR rows GR →
                Calls Try.prog 14 #[.pointer (some ⟨p, 0, none⟩), .slice AR n1 cR, .slice (some ⟨hb, ho, none⟩) n2 cS, .slice AF n3 cF, .agg #[.int .i64 f, .int .i64 t]] wA fun e w' => e = .returned (.int .i64 0) ∧ St w0 w' [] (GS ++ (ents bsS Q2 ++ (GF ++ (ents bsF Z ++ (GO ++ (ents bsO Y ++ KX))))))) := Lib.hid (fun w wA AR cR bsR GR h k1 q1 => by
                have := tu_app (f := f) (t := t) (Z := GS ++ ents bsS Q2) (M := GO ++ (ents bsO Y ++ KX)) SE.out (by simpa only [List.append_assoc] using h) (fun e he => by simp [SM.out e he]) (fun e he => he) k1 q1 CS2.out CF.out F1.out Q2F.out F3.out B1.out Q28.out B3.out
                rw [HF2.out, HZ.out] at this
                simpa only [List.append_assoc] using this)
              clear HP HPQ HQ2 HZ HCOL B8a hq
              go_wp2_with fail
              have S14 := Lib.hid S13.out.drew; clear S13
              go_region_held3 (fun w' => w'.cell? ⟨hb, ho + a, none⟩ = some (.slice (some ⟨rb, 0, none⟩) nd nd)) (first | exact HK6.out _ _ S14.out (by intro e he; simp [he]) | exact HK6.out _ _ S15.out (by intro e he; simp [he]) | exact HK6.out _ _ S16.out (by intro e he; simp [he]) | exact HK6.out _ _ S17.out (by intro e he; simp [he]) | exact HK6.out _ _ S18.out (by intro e he; simp [he]) | exact HK6.out _ _ S19.out (by intro e he; simp [he]) | exact HK6.out _ _ S20.out (by intro e he; simp [he]) | exact HK6.out _ _ S21.out (by intro e he; simp [he]) | exact HK6.out _ _ S22.out (by intro e he; simp [he]) | go_keep) (first
                | (go_at_call 16; (with_reducible refine (copied_st LD.out (by omega) (S14.out.ext RD.out)).mono ?_); rintro e w15 ⟨r, rfl, hh⟩; have K15 := Lib.hid hh; have h15 := S14.out.call hh; clear hh; (try simp only [List.nil_append, List.cons_append, List.append_eq, Int.toNat_natCast] at h15); have S15 := Lib.hid h15; clear h15)
                | (go_at_call 22; (with_reducible refine (HXOR.out _ _ _ S14.out K15.out).mono ?_); rintro e w16 ⟨rfl, hh⟩; have S16 := Lib.hid hh; clear hh K15 S14 S15))
              go_wp2_with fail
              have S17 := Lib.hid S16.out.drew; clear S16
              go_region_held3 (fun w' => w'.cell? ⟨xb, 0, none⟩ = some (.slice A1 n1 c1) ∧ w'.cell? ⟨xb, 1, none⟩ = some (.slice (some ⟨b6, o6, none⟩) n2 c2) ∧ w'.cell? ⟨xb, 2, none⟩ = some (.slice A3 n3 c3) ∧ w'.cell? ⟨xb, 3, none⟩ = some (.int .i64 f) ∧ w'.cell? ⟨xb, 4, none⟩ = some (.int .i64 t) ∧ w'.cell? ⟨xb, 5, none⟩ = some (.int .i64 u) ∧ w'.cell? ⟨sb, 0, none⟩ = some (.int .i64 f) ∧ w'.cell? ⟨sb, 1, none⟩ = some (.int .i64 t)) (first | exact HC.out _ _ S17.out (by intro e he; simp [he]) | exact HC.out _ _ S18.out (by intro e he; simp [he]) | exact HC.out _ _ S19.out (by intro e he; simp [he]) | exact HC.out _ _ S20.out (by intro e he; simp [he]) | exact HC.out _ _ S21.out (by intro e he; simp [he]) | exact HC.out _ _ S22.out (by intro e he; simp [he]) | exact HC.out _ _ S23.out (by intro e he; simp [he]) | exact HC.out _ _ S24.out (by intro e he; simp [he]) | exact HC.out _ _ S25.out (by intro e he; simp [he]) | go_keep) (first
                | (go_at_call 13; (with_reducible refine (copies_st L1.out F1.out (S17.out.extL R1.out)).mono ?_); rintro e w18 ⟨AR, cR, bsR, GR, rfl, hc, hh⟩; have K18 := Lib.hid hh; have C18 := Lib.hid hc; clear hc; have h18 := S17.out.call hh; clear hh; (try simp only [List.nil_append, List.cons_append, List.append_eq, Int.toNat_natCast] at h18); have S18 := Lib.hid h18; clear h18)
                | (go_at_call 14; (with_reducible refine (HAF.out _ _ _ _ _ _ S17.out K18.out C18.out).mono ?_); rintro e w19 ⟨rfl, hh⟩; have S19 := Lib.hid hh; clear hh C18 K18 S17 S18))
              obtain ⟨z0, z1, z2, z3, z4, z5, -, -⟩ := HC.out _ _ S19.out (fun e he => by simp [he])
              obtain ⟨NX, HNX⟩ : ∃ NX, Hid (GS ++ (ents bsS Q2 ++ (GF ++ (ents bsF Z ++ (GO ++ (ents bsO Y ++ KX))))) = NX) := ⟨_, Lib.hid rfl⟩
              rw [HNX.out] at S19
              have HKN : Hid (∀ e ∈ KX, e ∈ NX) := Lib.hid (fun e he => by rw [← HNX.out]; simp [he])
              clear HXOR HAF HK6
              go_wp2_with fail
              go_loopw [17, 106] (fun vc vi wq => ∃ (k : Nat) (AC : Option Addr) (cC : Nat) (GC : List Ent), k ≤ n1 ∧ vi = .int .i64 k ∧ vc = .slice AC k cC ∧ GrowB (.slice AC k cC) (col.take k) GC ∧ St w0 wq [] (GC ++ NX)) (fun _ vi _ => n1 - (intOf vi).toNat)
              case atStart => exact ⟨0, none, 0, [], by omega, rfl, rfl, GrowB.nil, S19.out⟩
              case round =>
                clear S19 z0 z1 z2 z3 z4 z5
                obtain ⟨k, AC, cC, GC, hk, rfl, rfl, hg, hs⟩ := hrel
                have S20 := Lib.hid hs; have HG := Lib.hid hg; clear hs hg
                by_cases hkn : k < n1
                · have k1 : (k : Int) < (n1 : Int) := by omega
                  obtain ⟨b7, o7, B7, c7, e7, x7, -, rs7, -⟩ := (S20.out.extL R1.out).at (i := k) (by rw [L1.out]; exact hkn)
                  rw [HRL.out k hkn] at x7
                  obtain ⟨b8, o8, e8, k8⟩ := rs7 (by rw [HRL.out k hkn]; omega)
                  have x8 := k8 a (by rw [HRL.out k hkn]; exact ha)
                  rw [HCG.out k hkn] at x8
                  have v8 := get_lt C8.out k
                  have HT : Hid (col.take (k + 1) = col.take k ++ [col.getD k 0]) := Lib.hid (by
                    rw [List.take_succ_eq_append_getElem (by rw [LC.out]; exact hkn)]
                    have : k < col.length := by rw [LC.out]; exact hkn
                    simp [this])
                  have HTL : Hid ((col.take k).length = k) := Lib.hid (by rw [List.length_take, LC.out]; omega)
                  generalize col.getD k 0 = x at *
                  subst e7 e8
                  clear k8 rs7
                  obtain ⟨-, z1, -, -, -, -, -, -⟩ := HC.out _ _ S20.out (fun e he => List.mem_append_right _ (HKN.out e he))
                  go_wp2_with (first
                    | ((with_reducible refine at_slot (N := 121) rfl ?_); refine ev rfl (bslice_run _ 5 1 _ (row .u8 [x]) rfl (fun _ => by kernel_rfl)) ?_; have h21 := S20.out.alloc 5 (row .u8 [x]); (try simp only [World.size_alloc, List.nil_append, List.cons_append, List.append_eq] at h21); have S21 := Lib.hid h21; clear h21 S20)
                    | ((with_reducible refine at_slot (N := 122) rfl ?_); refine append_bytes (G := GC) (N := NX) rfl _ _ rfl (.slice AC k cC) (col.take k) rfl (S21.out.drop (List.sublist_cons_self _ _)) HG.out (some ⟨wr.heap.size, 0, none⟩) 1 1 [x] rfl rfl (S21.out.rd mem0) (fun y hy => by rw [List.mem_singleton.1 hy]; exact v8) (by rw [HTL.out]; show k + 1 ≤ _; omega) ?_; intro v9 w22 G2 h22 hg hz; obtain ⟨A9, c9, rfl⟩ := hg.shape; have ez : (col.take k ++ [x]).length = k + 1 := (by rw [List.length_append, HTL.out]; rfl); rw [ez] at hg ⊢; have HGR := Lib.hid hg; clear hg hz ez; (try simp only [World.size_alloc, List.nil_append, List.cons_append, List.append_eq] at h22); have S22 := Lib.hid h22; clear h22 S21))
                  refine ⟨⟨k + 1, A9, c9, G2, by omega, by simp, rfl, by rw [HT.out]; exact HGR.out, S22.out⟩, ?_⟩
                  simp [intOf]; omega
                · have hkn1 : k = n1 := by omega
                  have d0 : decide ((k : Int) < (n1 : Int)) = false := by simp; omega
                  have d0' : decide (k < n1) = false := by simp; omega
                  have HGC : Hid (GrowB (.slice AC n1 cC) col GC) := Lib.hid (by
                    have := HG.out
                    rw [hkn1, List.take_of_length_le (by rw [LC.out]; exact Nat.le_refl _)] at this
                    exact this)
                  have ek : (Value.slice AC k cC) = Value.slice AC n1 cC := by rw [hkn1]
                  have HSD : Hid (∀ (w wA : World) (r : Nat), St w0 w [] (GC ++ NX) → St w wA [] [bt r diff] →
                    Calls Try.prog 19 #[.pointer (some ⟨p, 0, none⟩), .slice AC k cC, .slice (some ⟨r, 0, none⟩) nd nd, .slice AO n3 cO, .agg #[.int .i64 f, .int .i64 t]] wA fun e w' => e = .returned (.int .i64 0) ∧ St w0 w' [] (GC ++ (GS ++ (ents bsS Q2 ++ (GF ++ (ents bsF Z ++ (GO ++ (ents bsO Z ++ KX)))))))) := Lib.hid (fun w wA r h q1 => by
                    rw [← HNX.out] at h
                    rw [ek]
                    have := tu_spr (f := f) (t := t) (Z := GC ++ (GS ++ (ents bsS Q2 ++ (GF ++ ents bsF Z)))) (M := KX) SE.out (by simpa only [List.append_assoc] using h) (fun e he => SM.out e he) (fun e he => by simp [he]) HGC.out HCY.out q1 COY.out LC.out LD.out YF.out ud C8.out BD.out Y8.out
                    rw [HSP.out.1, HSP.out.2] at this
                    simpa only [List.append_assoc] using this)
                  have HSUB2 : Hid (KX.Sublist (GC ++ (GS ++ (ents bsS Q2 ++ (GF ++ (ents bsF Z ++ (GO ++ (ents bsO Z ++ KX)))))))) := Lib.hid (((((((List.sublist_append_right (ents bsO Z) _).trans (List.sublist_append_right GO _)).trans (List.sublist_append_right (ents bsF Z) _)).trans (List.sublist_append_right GF _)).trans (List.sublist_append_right (ents bsS Q2) _)).trans (List.sublist_append_right GS _)).trans (List.sublist_append_right GC _))
                  have CFZ := Lib.hid (CF.out.len ZL.out); have COZ := Lib.hid (CO.out.len ZL.out)
                  have LZ : Hid (Z.length = n3) := Lib.hid COZ.out.2.1.symm
                  clear hkn
                  go_wp2_with fail
                  have S21 := Lib.hid S20.out.drew; clear S20
                  go_region_held3 (fun w' => w'.cell? ⟨sb, 0, none⟩ = some (.int .i64 f) ∧ w'.cell? ⟨sb, 1, none⟩ = some (.int .i64 t)) (first | exact HCS.out _ _ S21.out (fun e he => List.mem_append_right _ (HKN.out e he)) | exact HCS.out _ _ S22.out (fun e he => by simp [HKN.out e he]) | exact HCS.out _ _ S23.out (by intro e he; simp [he]) | exact HCS.out _ _ S24.out (by intro e he; simp [he]) | go_keep) (first
                    | (go_at_call 16; (with_reducible refine (copied_st LD.out (by omega) (S21.out.ext RD.out)).mono ?_); rintro e w22 ⟨r, rfl, hh⟩; have K22 := Lib.hid hh; have h22 := S21.out.call hh; clear hh; (try simp only [List.nil_append, List.cons_append, List.append_eq, Int.toNat_natCast] at h22); have S22 := Lib.hid h22; clear h22)
                    | (go_at_call 19; (with_reducible refine (HSD.out _ _ _ S21.out K22.out).mono ?_); rintro e w23 ⟨rfl, hh⟩; have S23 := Lib.hid hh; clear hh K22 S21 S22))
                  clear HSD
                  go_wp2_with fail
                  refine (all_same LZ.out ZF.out Z8.out (COZ.out.rd0 S23.out (fun e he => by simp [he]) (fun e he => by simp [he])) (CFZ.out.rd0 S23.out (fun e he => by simp [he]) (fun e he => by simp [he]))).mono ?_
                  rintro e _ ⟨rfl, n24, rfl⟩
                  have h24 := S23.out.drewN (n := n24); clear S23
                  have S24 := Lib.hid h24; clear h24
                  go_wp2_with fail
                  refine ⟨⟨i + 1, by omega, by simp, S24.out.drop HSUB2.out⟩, ?_⟩
                  simp [intOf]; omega
            · have d4 : ((nd : Int) == (q : Int)) = false := by rw [beq_eq_false_iff_ne]; omega
              have d4' : (nd == q) = false := by simpa using h4
              have d5 : ((nd : Int) != (q : Int)) = true := by rw [bne_iff_ne]; omega
              have d6 : (nd != q) = true := by rw [bne_iff_ne]; exact h4
              clear h4
              go_wp2_with fail
              refine ⟨⟨i + 1, by omega, by simp, S11.out.drop HSUB.out⟩, ?_⟩
              simp [intOf]; omega
      · have q1 : (E == 0) = false := by simpa using hE
        have q2 : (E != 0) = true := by rw [bne_iff_ne]; exact hE
        clear hE
        go_wp2_with fail
        refine ⟨⟨i + 1, by omega, by simp, S11.out.drop HSUB.out⟩, ?_⟩
        simp [intOf]; omega
    · obtain rfl : i = 3 := by omega
      go_wp2_with fail
      go_ret
      exact ⟨rfl, S2.out.nil⟩

end Go.Proofs.Ytdbfkjhdnbmpeaa.Sk
