/- Layer 9: the law KernelLives (printed by gen/mk_wh.py). -/
import Derived.Test.YtdbfkjhdnbmpeaaWc
import Derived.Deep.RegionLaw

namespace Go.Proofs.Ytdbfkjhdnbmpeaa.Sk
set_option linter.unusedSimpArgs false
set_option linter.unusedVariables false
open Go Go.RowKit Go.Proofs.Ytdbfkjhdnbmpeaa Go.Proofs.Ytdbfkjhdnbmpeaa.Mm Go.Proofs.Ytdbfkjhdnbmpeaa.Gf Go.Proofs.Ytdbfkjhdnbmpeaa.Wr Go.Proofs.Ytdbfkjhdnbmpeaa.Nb Go.Proofs.Ytdbfkjhdnbmpeaa.St

/-- A step's cells. -/
abbrev stepC (k : Int) (c : Nat) (T F : Int) (AR : Option Addr) (m cR : Nat) (f t : Int) : Array Value := #[.int .i64 k, .int .u8 (c : Int), .int .i64 T, .int .i64 F, .slice AR m cR, .int .i64 f, .int .i64 t]

set_option maxRecDepth 100000 in
set_option maxHeartbeats 8000000 in
theorem played_st {p j : Nat} {S M GH : List Ent} {w0 w : World} {k T F f t : Int} {c m cR n cH to fr : Nat} {AR AH : Option Addr} {row bsH : List Nat} {L : List (List Nat)} (hSE : SetE p j S) (h : St w0 w [] (GH ++ (ents bsH L ++ M))) (hSM : ∀ e ∈ S, e ∈ M) (hcH : CopyL AH n cH bsH L GH) (hto : to < n) (hfr : fr < n) (hc : c < 256) (hm : row.length = m) (rr : Rd w0 AR row) (br : B8 row) (hf : Fit L) (h8 : B8L L) :
    Calls Try.prog 23 #[.pointer (some ⟨p, 0, none⟩), .agg (stepC k c T F AR m cR f t), .slice AH n cH, .int .i64 (to : Int), .int .i64 (fr : Int)] w fun e w' => e = .returned (.int .i64 (stepE k to fr row f t L)) ∧ St w0 w' [] (GH ++ (ents bsH (stepL k c to fr row f t L) ++ M)) := by
  have S0 := Lib.hid h; have SE := Lib.hid hSE; have SM := Lib.hid hSM; have CH := Lib.hid hcH; have HM := Lib.hid hm; have RR := Lib.hid rr; have BR := Lib.hid br; have HF := Lib.hid hf; have H8 := Lib.hid h8
  have hn24 : n * 24 ≤ 140737488351232 := by rw [hcH.2.1]; exact hf.1
  have LB : Hid (bsH.length = L.length) := Lib.hid hcH.1
  have LN : Hid (L.length = n) := Lib.hid hcH.2.1.symm
  obtain ⟨hb, ho, eA, hk1⟩ := CopyL.hdr hcH hto h (fun e he => by simp [he])
  obtain ⟨hb', ho', eA', hk2⟩ := CopyL.hdr hcH hfr h (fun e he => by simp [he])
  rw [eA] at eA'
  injection eA' with eA'
  injection eA' with e1 e2 _
  subst e1 e2 eA
  have ut : (L.getD to []).length ≤ 140737488351232 := hf.get to
  have uf : (L.getD fr []).length ≤ 140737488351232 := hf.get fr
  obtain ⟨nt, hnt⟩ : ∃ x, Hid ((L.getD to []).length = x) := ⟨_, Lib.hid rfl⟩
  obtain ⟨nf, hnf⟩ : ∃ x, Hid ((L.getD fr []).length = x) := ⟨_, Lib.hid rfl⟩
  rw [hnt.out] at hk1 ut; rw [hnf.out] at hk2 uf
  obtain ⟨a, ha⟩ : ∃ x, Hid (bsH.getD to 0 = x) := ⟨_, Lib.hid rfl⟩
  obtain ⟨b, hbb⟩ : ∃ x, Hid (bsH.getD fr 0 = x) := ⟨_, Lib.hid rfl⟩
  rw [ha.out] at hk1; rw [hbb.out] at hk2
  have HK1 := Lib.hid hk1; have HK2 := Lib.hid hk2
  clear h hSE hSM hcH hm rr br hf h8 hk1 hk2
  go_enter Try.func23, Try.ntmps23
  have HB : Hid (bt b (L.getD fr []) ∈ ents (bsH.eraseIdx to) (L.eraseIdx to) ++ GH ∨ (b = a ∧ L.getD fr [] = L.getD to [])) := Lib.hid (by
    by_cases hft : fr = to
    · subst hft; exact .inr ⟨by rw [← ha.out, ← hbb.out], rfl⟩
    · exact .inl (List.mem_append_left _ (by rw [← hbb.out]; exact er_mem LB.out (by rw [LN.out]; exact hfr) hft)))
  have HTO : Hid (to < L.length) := Lib.hid (by rw [LN.out]; exact hto)
  have HFR : Hid (fr < L.length) := Lib.hid (by rw [LN.out]; exact hfr)
  have t1 : (to : Int) < (n : Int) := by omega
  have t2 : (fr : Int) < (n : Int) := by omega
  by_cases k0 : k = 0
  · subst k0
    have HE : Hid (stepE 0 to fr row f t L = lenE nt nf) := Lib.hid (by unfold stepE; rw [if_pos (.inl rfl), hnt.out, hnf.out])
    have HL : Hid (stepL 0 c to fr row f t L = L.set to (mulD c (L.getD to []) (L.getD fr []))) := Lib.hid (by unfold stepL; rw [if_pos rfl])
    go_wp2_with ((with_reducible refine at_slot (N := 6) rfl ?_); refine box_law rfl _ _ (stepC 0 c T F AR m cR f t) rfl rfl S0.out ?_; intro ob w1 h1; have z0 := (h1.blk mem0).cell (i := 0) rfl; have z4 := (h1.blk mem0).cell (i := 4) rfl; (try simp only [World.size_alloc, List.nil_append, List.cons_append, List.append_eq] at h1); have S1 := Lib.hid h1; clear h1 S0)

    (try clear z0 z4)
    obtain ⟨MX, HMX⟩ : ∃ X, Hid ((⟨ob, 55, stepC 0 c T F AR m cR f t⟩ : Ent) :: M = X) := ⟨_, Lib.hid rfl⟩
    have S2 : Hid (St w0 w1 [] (GH ++ (ents bsH L ++ MX))) := Lib.hid (by
      rw [← HMX.out]
      have hp := (List.perm_middle (a := (⟨ob, 55, stepC 0 c T F AR m cR f t⟩ : Ent)) (l₁ := GH ++ ents bsH L) (l₂ := M)).symm
      have h1 := S1.out
      rw [← List.append_assoc] at h1
      have h2 := h1.perm hp
      rw [List.append_assoc] at h2
      exact h2)
    have HK : Hid (∀ (w' : World) (N' : List Ent), St w0 w' [] N' → (∀ e ∈ GH ++ MX, e ∈ N') → w'.cell? ⟨hb, ho + to, none⟩ = some (.slice (some ⟨a, 0, none⟩) nt nt) ∧ w'.cell? ⟨hb, ho + fr, none⟩ = some (.slice (some ⟨b, 0, none⟩) nf nf) ∧ w'.cell? ⟨ob, 0, none⟩ = some (.int .i64 0) ∧ w'.cell? ⟨ob, 1, none⟩ = some (.int .u8 (c : Int)) ∧ w'.cell? ⟨ob, 4, none⟩ = some (.slice AR m cR) ∧ w'.cell? ⟨ob, 5, none⟩ = some (.int .i64 f) ∧ w'.cell? ⟨ob, 6, none⟩ = some (.int .i64 t)) := Lib.hid (fun w' N' hs hm => by
      have hG : ∀ e ∈ GH, e ∈ N' := fun e he => hm e (List.mem_append_left _ he)
      have hS : (⟨ob, 55, stepC 0 c T F AR m cR f t⟩ : Ent) ∈ N' := hm _ (List.mem_append_right _ (by rw [← HMX.out]; exact mem0))
      exact ⟨HK1.out w' N' hs hG, HK2.out w' N' hs hG, (hs.blk hS).cell (i := 0) rfl, (hs.blk hS).cell (i := 1) rfl, (hs.blk hS).cell (i := 4) rfl, (hs.blk hS).cell (i := 5) rfl, (hs.blk hS).cell (i := 6) rfl⟩)
    have SMX : Hid (∀ e ∈ S, e ∈ MX) := Lib.hid (fun e he => by rw [← HMX.out]; exact List.mem_cons_of_mem _ (SM.out e he))
    have HFIN : Hid (∀ (w' : World) (L' : List (List Nat)), St w0 w' [] (GH ++ (ents bsH L' ++ MX)) → St w0 w' [] (GH ++ (ents bsH L' ++ M))) := Lib.hid (fun w' L' hs => by
      rw [← HMX.out] at hs
      exact hs.drop ((List.Sublist.refl _).append ((List.Sublist.refl _).append (List.sublist_cons_self _ _))))
    clear S1 HK1 HK2 SM HMX
    have HX : Hid (∀ w', St w0 w' [] (GH ++ (ents bsH L ++ MX)) → Calls Try.prog 26 #[.pointer (some ⟨p, 0, none⟩), .int .u8 (c : Int), .slice (some ⟨a, 0, none⟩) nt nt, .slice (some ⟨b, 0, none⟩) nf nf] w' fun e w'' => e = .returned (.int .i64 (lenE nt nf)) ∧ St w0 w'' [] (GH ++ (ents bsH (L.set to (mulD c (L.getD to []) (L.getD fr []))) ++ MX))) := Lib.hid (fun w' hs => by
      have h1 := er_of hs LB.out HTO.out
      have hb := HB.out
      rw [← ha.out] at hb ⊢
      exact (mulT SE.out h1 SMX.out hb hc hnt.out (H8.out.get to) hnf.out (H8.out.get fr) ut).mono fun e w'' ⟨he, hk⟩ => ⟨he, er_set hk LB.out HTO.out⟩)
    have S3 := Lib.hid S2.out.drew; clear S2
    go_region_held3 (fun w' => w'.cell? ⟨hb, ho + to, none⟩ = some (.slice (some ⟨a, 0, none⟩) nt nt) ∧ w'.cell? ⟨hb, ho + fr, none⟩ = some (.slice (some ⟨b, 0, none⟩) nf nf) ∧ w'.cell? ⟨ob, 0, none⟩ = some (.int .i64 0) ∧ w'.cell? ⟨ob, 1, none⟩ = some (.int .u8 (c : Int)) ∧ w'.cell? ⟨ob, 4, none⟩ = some (.slice AR m cR) ∧ w'.cell? ⟨ob, 5, none⟩ = some (.int .i64 f) ∧ w'.cell? ⟨ob, 6, none⟩ = some (.int .i64 t)) (first | exact HK.out _ _ S3.out (by intro e he; simp at he; rcases he with he | he <;> simp [he]) | exact HK.out _ _ S4.out (by intro e he; simp at he; rcases he with he | he <;> simp [he]) | exact HK.out _ _ S5.out (by intro e he; simp at he; rcases he with he | he <;> simp [he]) | exact HK.out _ _ S6.out (by intro e he; simp at he; rcases he with he | he <;> simp [he]) | exact HK.out _ _ S7.out (by intro e he; simp at he; rcases he with he | he <;> simp [he]) | exact HK.out _ _ S8.out (by intro e he; simp at he; rcases he with he | he <;> simp [he]) | exact HK.out _ _ S9.out (by intro e he; simp at he; rcases he with he | he <;> simp [he]) | exact HK.out _ _ S10.out (by intro e he; simp at he; rcases he with he | he <;> simp [he]) | exact HK.out _ _ S11.out (by intro e he; simp at he; rcases he with he | he <;> simp [he]) | go_keep) (first
      | (go_at_call 26; (with_reducible refine (HX.out _ S3.out).mono ?_); rintro e w4 ⟨rfl, hh⟩; have S4 := Lib.hid hh; clear hh S3))
    go_wp2_with fail
    go_ret
    exact ⟨by rw [HE.out]; rfl, by rw [HL.out]; exact HFIN.out _ _ S4.out⟩
  · have q0 : (k == 0) = false := by simpa using k0
    by_cases k1 : k = 1
    · subst k1
      have HE : Hid (stepE 1 to fr row f t L = lenE nt nf) := Lib.hid (by unfold stepE; rw [if_pos (.inr (.inl rfl)), hnt.out, hnf.out])
      have HL : Hid (stepL 1 c to fr row f t L = L.set to (addD c (L.getD to []) (L.getD fr []))) := Lib.hid (by unfold stepL; rw [if_neg (by decide), if_pos rfl])
      go_wp2_with ((with_reducible refine at_slot (N := 6) rfl ?_); refine box_law rfl _ _ (stepC 1 c T F AR m cR f t) rfl rfl S0.out ?_; intro ob w1 h1; have z0 := (h1.blk mem0).cell (i := 0) rfl; have z4 := (h1.blk mem0).cell (i := 4) rfl; (try simp only [World.size_alloc, List.nil_append, List.cons_append, List.append_eq] at h1); have S1 := Lib.hid h1; clear h1 S0)

      (try clear z0 z4)
      obtain ⟨MX, HMX⟩ : ∃ X, Hid ((⟨ob, 55, stepC 1 c T F AR m cR f t⟩ : Ent) :: M = X) := ⟨_, Lib.hid rfl⟩
      have S2 : Hid (St w0 w1 [] (GH ++ (ents bsH L ++ MX))) := Lib.hid (by
        rw [← HMX.out]
        have hp := (List.perm_middle (a := (⟨ob, 55, stepC 1 c T F AR m cR f t⟩ : Ent)) (l₁ := GH ++ ents bsH L) (l₂ := M)).symm
        have h1 := S1.out
        rw [← List.append_assoc] at h1
        have h2 := h1.perm hp
        rw [List.append_assoc] at h2
        exact h2)
      have HK : Hid (∀ (w' : World) (N' : List Ent), St w0 w' [] N' → (∀ e ∈ GH ++ MX, e ∈ N') → w'.cell? ⟨hb, ho + to, none⟩ = some (.slice (some ⟨a, 0, none⟩) nt nt) ∧ w'.cell? ⟨hb, ho + fr, none⟩ = some (.slice (some ⟨b, 0, none⟩) nf nf) ∧ w'.cell? ⟨ob, 0, none⟩ = some (.int .i64 1) ∧ w'.cell? ⟨ob, 1, none⟩ = some (.int .u8 (c : Int)) ∧ w'.cell? ⟨ob, 4, none⟩ = some (.slice AR m cR) ∧ w'.cell? ⟨ob, 5, none⟩ = some (.int .i64 f) ∧ w'.cell? ⟨ob, 6, none⟩ = some (.int .i64 t)) := Lib.hid (fun w' N' hs hm => by
        have hG : ∀ e ∈ GH, e ∈ N' := fun e he => hm e (List.mem_append_left _ he)
        have hS : (⟨ob, 55, stepC 1 c T F AR m cR f t⟩ : Ent) ∈ N' := hm _ (List.mem_append_right _ (by rw [← HMX.out]; exact mem0))
        exact ⟨HK1.out w' N' hs hG, HK2.out w' N' hs hG, (hs.blk hS).cell (i := 0) rfl, (hs.blk hS).cell (i := 1) rfl, (hs.blk hS).cell (i := 4) rfl, (hs.blk hS).cell (i := 5) rfl, (hs.blk hS).cell (i := 6) rfl⟩)
      have SMX : Hid (∀ e ∈ S, e ∈ MX) := Lib.hid (fun e he => by rw [← HMX.out]; exact List.mem_cons_of_mem _ (SM.out e he))
      have HFIN : Hid (∀ (w' : World) (L' : List (List Nat)), St w0 w' [] (GH ++ (ents bsH L' ++ MX)) → St w0 w' [] (GH ++ (ents bsH L' ++ M))) := Lib.hid (fun w' L' hs => by
        rw [← HMX.out] at hs
        exact hs.drop ((List.Sublist.refl _).append ((List.Sublist.refl _).append (List.sublist_cons_self _ _))))
      clear S1 HK1 HK2 SM HMX
      have HX : Hid (∀ w', St w0 w' [] (GH ++ (ents bsH L ++ MX)) → Calls Try.prog 17 #[.pointer (some ⟨p, 0, none⟩), .int .u8 (c : Int), .slice (some ⟨a, 0, none⟩) nt nt, .slice (some ⟨b, 0, none⟩) nf nf] w' fun e w'' => e = .returned (.int .i64 (lenE nt nf)) ∧ St w0 w'' [] (GH ++ (ents bsH (L.set to (addD c (L.getD to []) (L.getD fr []))) ++ MX))) := Lib.hid (fun w' hs => by
        have h1 := er_of hs LB.out HTO.out
        have hb := HB.out
        rw [← ha.out] at hb ⊢
        exact (addT SE.out h1 SMX.out hb hc hnt.out (H8.out.get to) hnf.out (H8.out.get fr) ut).mono fun e w'' ⟨he, hk⟩ => ⟨he, er_set hk LB.out HTO.out⟩)
      have S3 := Lib.hid S2.out.drew; clear S2
      go_region_held3 (fun w' => w'.cell? ⟨hb, ho + to, none⟩ = some (.slice (some ⟨a, 0, none⟩) nt nt) ∧ w'.cell? ⟨hb, ho + fr, none⟩ = some (.slice (some ⟨b, 0, none⟩) nf nf) ∧ w'.cell? ⟨ob, 0, none⟩ = some (.int .i64 1) ∧ w'.cell? ⟨ob, 1, none⟩ = some (.int .u8 (c : Int)) ∧ w'.cell? ⟨ob, 4, none⟩ = some (.slice AR m cR) ∧ w'.cell? ⟨ob, 5, none⟩ = some (.int .i64 f) ∧ w'.cell? ⟨ob, 6, none⟩ = some (.int .i64 t)) (first | exact HK.out _ _ S3.out (by intro e he; simp at he; rcases he with he | he <;> simp [he]) | exact HK.out _ _ S4.out (by intro e he; simp at he; rcases he with he | he <;> simp [he]) | exact HK.out _ _ S5.out (by intro e he; simp at he; rcases he with he | he <;> simp [he]) | exact HK.out _ _ S6.out (by intro e he; simp at he; rcases he with he | he <;> simp [he]) | exact HK.out _ _ S7.out (by intro e he; simp at he; rcases he with he | he <;> simp [he]) | exact HK.out _ _ S8.out (by intro e he; simp at he; rcases he with he | he <;> simp [he]) | exact HK.out _ _ S9.out (by intro e he; simp at he; rcases he with he | he <;> simp [he]) | exact HK.out _ _ S10.out (by intro e he; simp at he; rcases he with he | he <;> simp [he]) | exact HK.out _ _ S11.out (by intro e he; simp at he; rcases he with he | he <;> simp [he]) | go_keep) (first
        | (go_at_call 17; (with_reducible refine (HX.out _ S3.out).mono ?_); rintro e w4 ⟨rfl, hh⟩; have S4 := Lib.hid hh; clear hh S3))
      go_wp2_with fail
      go_ret
      exact ⟨by rw [HE.out]; rfl, by rw [HL.out]; exact HFIN.out _ _ S4.out⟩
    · have q1 : (k == 1) = false := by simpa using k1
      by_cases k2 : k = 2
      · subst k2
        have HE : Hid (stepE 2 to fr row f t L = lenE nt nf) := Lib.hid (by unfold stepE; rw [if_pos (.inr (.inr rfl)), hnt.out, hnf.out])
        have HL : Hid (stepL 2 c to fr row f t L = L.set to (xorD (L.getD to []) (L.getD fr []))) := Lib.hid (by unfold stepL; rw [if_neg (by decide), if_neg (by decide), if_pos rfl])
        go_wp2_with ((with_reducible refine at_slot (N := 6) rfl ?_); refine box_law rfl _ _ (stepC 2 c T F AR m cR f t) rfl rfl S0.out ?_; intro ob w1 h1; have z0 := (h1.blk mem0).cell (i := 0) rfl; have z4 := (h1.blk mem0).cell (i := 4) rfl; (try simp only [World.size_alloc, List.nil_append, List.cons_append, List.append_eq] at h1); have S1 := Lib.hid h1; clear h1 S0)

        (try clear z0 z4)
        obtain ⟨MX, HMX⟩ : ∃ X, Hid ((⟨ob, 55, stepC 2 c T F AR m cR f t⟩ : Ent) :: M = X) := ⟨_, Lib.hid rfl⟩
        have S2 : Hid (St w0 w1 [] (GH ++ (ents bsH L ++ MX))) := Lib.hid (by
          rw [← HMX.out]
          have hp := (List.perm_middle (a := (⟨ob, 55, stepC 2 c T F AR m cR f t⟩ : Ent)) (l₁ := GH ++ ents bsH L) (l₂ := M)).symm
          have h1 := S1.out
          rw [← List.append_assoc] at h1
          have h2 := h1.perm hp
          rw [List.append_assoc] at h2
          exact h2)
        have HK : Hid (∀ (w' : World) (N' : List Ent), St w0 w' [] N' → (∀ e ∈ GH ++ MX, e ∈ N') → w'.cell? ⟨hb, ho + to, none⟩ = some (.slice (some ⟨a, 0, none⟩) nt nt) ∧ w'.cell? ⟨hb, ho + fr, none⟩ = some (.slice (some ⟨b, 0, none⟩) nf nf) ∧ w'.cell? ⟨ob, 0, none⟩ = some (.int .i64 2) ∧ w'.cell? ⟨ob, 1, none⟩ = some (.int .u8 (c : Int)) ∧ w'.cell? ⟨ob, 4, none⟩ = some (.slice AR m cR) ∧ w'.cell? ⟨ob, 5, none⟩ = some (.int .i64 f) ∧ w'.cell? ⟨ob, 6, none⟩ = some (.int .i64 t)) := Lib.hid (fun w' N' hs hm => by
          have hG : ∀ e ∈ GH, e ∈ N' := fun e he => hm e (List.mem_append_left _ he)
          have hS : (⟨ob, 55, stepC 2 c T F AR m cR f t⟩ : Ent) ∈ N' := hm _ (List.mem_append_right _ (by rw [← HMX.out]; exact mem0))
          exact ⟨HK1.out w' N' hs hG, HK2.out w' N' hs hG, (hs.blk hS).cell (i := 0) rfl, (hs.blk hS).cell (i := 1) rfl, (hs.blk hS).cell (i := 4) rfl, (hs.blk hS).cell (i := 5) rfl, (hs.blk hS).cell (i := 6) rfl⟩)
        have SMX : Hid (∀ e ∈ S, e ∈ MX) := Lib.hid (fun e he => by rw [← HMX.out]; exact List.mem_cons_of_mem _ (SM.out e he))
        have HFIN : Hid (∀ (w' : World) (L' : List (List Nat)), St w0 w' [] (GH ++ (ents bsH L' ++ MX)) → St w0 w' [] (GH ++ (ents bsH L' ++ M))) := Lib.hid (fun w' L' hs => by
          rw [← HMX.out] at hs
          exact hs.drop ((List.Sublist.refl _).append ((List.Sublist.refl _).append (List.sublist_cons_self _ _))))
        clear S1 HK1 HK2 SM HMX
        have HX : Hid (∀ w', St w0 w' [] (GH ++ (ents bsH L ++ MX)) → Calls Try.prog 22 #[.slice (some ⟨a, 0, none⟩) nt nt, .slice (some ⟨b, 0, none⟩) nf nf] w' fun e w'' => e = .returned (.int .i64 (lenE nt nf)) ∧ St w0 w'' [] (GH ++ (ents bsH (L.set to (xorD (L.getD to []) (L.getD fr []))) ++ MX))) := Lib.hid (fun w' hs => by
          have h1 := er_of hs LB.out HTO.out
          have hb := HB.out
          rw [← ha.out] at hb ⊢
          exact (xorT h1 hb hnt.out (H8.out.get to) hnf.out (H8.out.get fr) ut).mono fun e w'' ⟨he, hk⟩ => ⟨he, er_set hk LB.out HTO.out⟩)
        have S3 := Lib.hid S2.out.drew; clear S2
        go_region_held3 (fun w' => w'.cell? ⟨hb, ho + to, none⟩ = some (.slice (some ⟨a, 0, none⟩) nt nt) ∧ w'.cell? ⟨hb, ho + fr, none⟩ = some (.slice (some ⟨b, 0, none⟩) nf nf) ∧ w'.cell? ⟨ob, 0, none⟩ = some (.int .i64 2) ∧ w'.cell? ⟨ob, 1, none⟩ = some (.int .u8 (c : Int)) ∧ w'.cell? ⟨ob, 4, none⟩ = some (.slice AR m cR) ∧ w'.cell? ⟨ob, 5, none⟩ = some (.int .i64 f) ∧ w'.cell? ⟨ob, 6, none⟩ = some (.int .i64 t)) (first | exact HK.out _ _ S3.out (by intro e he; simp at he; rcases he with he | he <;> simp [he]) | exact HK.out _ _ S4.out (by intro e he; simp at he; rcases he with he | he <;> simp [he]) | exact HK.out _ _ S5.out (by intro e he; simp at he; rcases he with he | he <;> simp [he]) | exact HK.out _ _ S6.out (by intro e he; simp at he; rcases he with he | he <;> simp [he]) | exact HK.out _ _ S7.out (by intro e he; simp at he; rcases he with he | he <;> simp [he]) | exact HK.out _ _ S8.out (by intro e he; simp at he; rcases he with he | he <;> simp [he]) | exact HK.out _ _ S9.out (by intro e he; simp at he; rcases he with he | he <;> simp [he]) | exact HK.out _ _ S10.out (by intro e he; simp at he; rcases he with he | he <;> simp [he]) | exact HK.out _ _ S11.out (by intro e he; simp at he; rcases he with he | he <;> simp [he]) | go_keep) (first
          | (go_at_call 22; (with_reducible refine (HX.out _ S3.out).mono ?_); rintro e w4 ⟨rfl, hh⟩; have S4 := Lib.hid hh; clear hh S3))
        go_wp2_with fail
        go_ret
        exact ⟨by rw [HE.out]; rfl, by rw [HL.out]; exact HFIN.out _ _ S4.out⟩
      · have q2 : (k == 2) = false := by simpa using k2
        by_cases k3 : k = 3
        · subst k3
          have HE : Hid (stepE 3 to fr row f t L = dotE (rowX row n to) (L.eraseIdx to) nt) := Lib.hid (by unfold stepE; rw [if_neg (by decide), if_pos rfl, hnt.out, LN.out])
          have HL : Hid (stepL 3 c to fr row f t L = L.set to (dotD (rowX row n to) (L.eraseIdx to) (L.getD to []))) := Lib.hid (by unfold stepL; rw [if_neg (by decide), if_neg (by decide), if_neg (by decide), if_pos rfl, LN.out])
          go_wp2_with ((with_reducible refine at_slot (N := 6) rfl ?_); refine box_law rfl _ _ (stepC 3 c T F AR m cR f t) rfl rfl S0.out ?_; intro ob w1 h1; have z0 := (h1.blk mem0).cell (i := 0) rfl; have z4 := (h1.blk mem0).cell (i := 4) rfl; (try simp only [World.size_alloc, List.nil_append, List.cons_append, List.append_eq] at h1); have S1 := Lib.hid h1; clear h1 S0)

          (try clear z0 z4)
          obtain ⟨MX, HMX⟩ : ∃ X, Hid ((⟨ob, 55, stepC 3 c T F AR m cR f t⟩ : Ent) :: M = X) := ⟨_, Lib.hid rfl⟩
          have S2 : Hid (St w0 w1 [] (GH ++ (ents bsH L ++ MX))) := Lib.hid (by
            rw [← HMX.out]
            have hp := (List.perm_middle (a := (⟨ob, 55, stepC 3 c T F AR m cR f t⟩ : Ent)) (l₁ := GH ++ ents bsH L) (l₂ := M)).symm
            have h1 := S1.out
            rw [← List.append_assoc] at h1
            have h2 := h1.perm hp
            rw [List.append_assoc] at h2
            exact h2)
          have HK : Hid (∀ (w' : World) (N' : List Ent), St w0 w' [] N' → (∀ e ∈ GH ++ MX, e ∈ N') → w'.cell? ⟨hb, ho + to, none⟩ = some (.slice (some ⟨a, 0, none⟩) nt nt) ∧ w'.cell? ⟨hb, ho + fr, none⟩ = some (.slice (some ⟨b, 0, none⟩) nf nf) ∧ w'.cell? ⟨ob, 0, none⟩ = some (.int .i64 3) ∧ w'.cell? ⟨ob, 1, none⟩ = some (.int .u8 (c : Int)) ∧ w'.cell? ⟨ob, 4, none⟩ = some (.slice AR m cR) ∧ w'.cell? ⟨ob, 5, none⟩ = some (.int .i64 f) ∧ w'.cell? ⟨ob, 6, none⟩ = some (.int .i64 t)) := Lib.hid (fun w' N' hs hm => by
            have hG : ∀ e ∈ GH, e ∈ N' := fun e he => hm e (List.mem_append_left _ he)
            have hS : (⟨ob, 55, stepC 3 c T F AR m cR f t⟩ : Ent) ∈ N' := hm _ (List.mem_append_right _ (by rw [← HMX.out]; exact mem0))
            exact ⟨HK1.out w' N' hs hG, HK2.out w' N' hs hG, (hs.blk hS).cell (i := 0) rfl, (hs.blk hS).cell (i := 1) rfl, (hs.blk hS).cell (i := 4) rfl, (hs.blk hS).cell (i := 5) rfl, (hs.blk hS).cell (i := 6) rfl⟩)
          have SMX : Hid (∀ e ∈ S, e ∈ MX) := Lib.hid (fun e he => by rw [← HMX.out]; exact List.mem_cons_of_mem _ (SM.out e he))
          have HFIN : Hid (∀ (w' : World) (L' : List (List Nat)), St w0 w' [] (GH ++ (ents bsH L' ++ MX)) → St w0 w' [] (GH ++ (ents bsH L' ++ M))) := Lib.hid (fun w' L' hs => by
            rw [← HMX.out] at hs
            exact hs.drop ((List.Sublist.refl _).append ((List.Sublist.refl _).append (List.sublist_cons_self _ _))))
          clear S1 HK1 HK2 SM HMX
          refine (others_st (k := to) (ds := sds bsH L) (by rw [sds_length LB.out, LN.out]) hn24 HM.out (S2.out.ext RR.out) BR.out (CH.out.rdV S2.out (fun e he => by simp [he]))).mono ?_
          rintro e w3 ⟨R1, d1, R2, d2, G1, G2, rfl, hg1, hg2, hz1, hz2, hh⟩
          have h3 := S2.out.call hh; clear hh S2
          try simp only [List.nil_append, List.cons_append, List.append_eq, Int.toNat_natCast] at h3
          have HG1 := Lib.hid hg1; have HG2 := Lib.hid hg2; have HZ1 := Lib.hid hz1; have HZ2 := Lib.hid hz2; clear hg1 hg2 hz1 hz2; obtain ⟨y0, y1, y2, y3, y4, y5, y6⟩ := HK.out _ _ h3 (by intro e he; simp at he; rcases he with he | he <;> simp [he])
          have S3 := Lib.hid h3; clear h3
          go_wp2_with fail
          refine ((ha.out ▸ step_dot SE.out S3.out SMX.out LB.out HTO.out rfl HG1.out HZ1.out rfl HG2.out HZ2.out HF.out H8.out (rowX_b8 BR.out n to) hnt.out)).mono ?_
          rintro e w4 ⟨rfl, hh⟩
          have S4 := Lib.hid hh; clear hh S3
          go_wp2_with fail
          go_ret
          exact ⟨by rw [HE.out]; rfl, by rw [HL.out]; exact HFIN.out _ _ S4.out⟩
        · have q3 : (k == 3) = false := by simpa using k3
          by_cases k4 : k = 4
          · subst k4
            have HE : Hid (stepE 4 to fr row f t L = sprE (rowX row n fr) (L.getD fr []) (L.eraseIdx fr) f t) := Lib.hid (by unfold stepE; rw [if_neg (by decide), if_neg (by decide), if_pos rfl, LN.out])
            have HL : Hid (stepL 4 c to fr row f t L = (sprD (rowX row n fr) (L.getD fr []) (L.eraseIdx fr) f t).insertIdx fr (L.getD fr [])) := Lib.hid (by unfold stepL; rw [if_neg (by decide), if_neg (by decide), if_neg (by decide), if_neg (by decide), if_pos rfl, LN.out])
            go_wp2_with ((with_reducible refine at_slot (N := 6) rfl ?_); refine box_law rfl _ _ (stepC 4 c T F AR m cR f t) rfl rfl S0.out ?_; intro ob w1 h1; have z0 := (h1.blk mem0).cell (i := 0) rfl; have z4 := (h1.blk mem0).cell (i := 4) rfl; (try simp only [World.size_alloc, List.nil_append, List.cons_append, List.append_eq] at h1); have S1 := Lib.hid h1; clear h1 S0)

            (try clear z0 z4)
            obtain ⟨MX, HMX⟩ : ∃ X, Hid ((⟨ob, 55, stepC 4 c T F AR m cR f t⟩ : Ent) :: M = X) := ⟨_, Lib.hid rfl⟩
            have S2 : Hid (St w0 w1 [] (GH ++ (ents bsH L ++ MX))) := Lib.hid (by
              rw [← HMX.out]
              have hp := (List.perm_middle (a := (⟨ob, 55, stepC 4 c T F AR m cR f t⟩ : Ent)) (l₁ := GH ++ ents bsH L) (l₂ := M)).symm
              have h1 := S1.out
              rw [← List.append_assoc] at h1
              have h2 := h1.perm hp
              rw [List.append_assoc] at h2
              exact h2)
            have HK : Hid (∀ (w' : World) (N' : List Ent), St w0 w' [] N' → (∀ e ∈ GH ++ MX, e ∈ N') → w'.cell? ⟨hb, ho + to, none⟩ = some (.slice (some ⟨a, 0, none⟩) nt nt) ∧ w'.cell? ⟨hb, ho + fr, none⟩ = some (.slice (some ⟨b, 0, none⟩) nf nf) ∧ w'.cell? ⟨ob, 0, none⟩ = some (.int .i64 4) ∧ w'.cell? ⟨ob, 1, none⟩ = some (.int .u8 (c : Int)) ∧ w'.cell? ⟨ob, 4, none⟩ = some (.slice AR m cR) ∧ w'.cell? ⟨ob, 5, none⟩ = some (.int .i64 f) ∧ w'.cell? ⟨ob, 6, none⟩ = some (.int .i64 t)) := Lib.hid (fun w' N' hs hm => by
              have hG : ∀ e ∈ GH, e ∈ N' := fun e he => hm e (List.mem_append_left _ he)
              have hS : (⟨ob, 55, stepC 4 c T F AR m cR f t⟩ : Ent) ∈ N' := hm _ (List.mem_append_right _ (by rw [← HMX.out]; exact mem0))
              exact ⟨HK1.out w' N' hs hG, HK2.out w' N' hs hG, (hs.blk hS).cell (i := 0) rfl, (hs.blk hS).cell (i := 1) rfl, (hs.blk hS).cell (i := 4) rfl, (hs.blk hS).cell (i := 5) rfl, (hs.blk hS).cell (i := 6) rfl⟩)
            have SMX : Hid (∀ e ∈ S, e ∈ MX) := Lib.hid (fun e he => by rw [← HMX.out]; exact List.mem_cons_of_mem _ (SM.out e he))
            have HFIN : Hid (∀ (w' : World) (L' : List (List Nat)), St w0 w' [] (GH ++ (ents bsH L' ++ MX)) → St w0 w' [] (GH ++ (ents bsH L' ++ M))) := Lib.hid (fun w' L' hs => by
              rw [← HMX.out] at hs
              exact hs.drop ((List.Sublist.refl _).append ((List.Sublist.refl _).append (List.sublist_cons_self _ _))))
            clear S1 HK1 HK2 SM HMX
            refine (others_st (k := fr) (ds := sds bsH L) (by rw [sds_length LB.out, LN.out]) hn24 HM.out (S2.out.ext RR.out) BR.out (CH.out.rdV S2.out (fun e he => by simp [he]))).mono ?_
            rintro e w3 ⟨R1, d1, R2, d2, G1, G2, rfl, hg1, hg2, hz1, hz2, hh⟩
            have h3 := S2.out.call hh; clear hh S2
            try simp only [List.nil_append, List.cons_append, List.append_eq, Int.toNat_natCast] at h3
            have HG1 := Lib.hid hg1; have HG2 := Lib.hid hg2; have HZ1 := Lib.hid hz1; have HZ2 := Lib.hid hz2; clear hg1 hg2 hz1 hz2
            have S3 := Lib.hid h3; clear h3
            go_wp2_with fail
            have S4 := Lib.hid S3.out.drew; clear S3
            go_region_held3 (fun w' => w'.cell? ⟨hb, ho + to, none⟩ = some (.slice (some ⟨a, 0, none⟩) nt nt) ∧ w'.cell? ⟨hb, ho + fr, none⟩ = some (.slice (some ⟨b, 0, none⟩) nf nf) ∧ w'.cell? ⟨ob, 0, none⟩ = some (.int .i64 4) ∧ w'.cell? ⟨ob, 1, none⟩ = some (.int .u8 (c : Int)) ∧ w'.cell? ⟨ob, 4, none⟩ = some (.slice AR m cR) ∧ w'.cell? ⟨ob, 5, none⟩ = some (.int .i64 f) ∧ w'.cell? ⟨ob, 6, none⟩ = some (.int .i64 t)) (first | exact HK.out _ _ S4.out (by intro e he; simp at he; rcases he with he | he <;> simp [he]) | exact HK.out _ _ S5.out (by intro e he; simp at he; rcases he with he | he <;> simp [he]) | exact HK.out _ _ S6.out (by intro e he; simp at he; rcases he with he | he <;> simp [he]) | exact HK.out _ _ S7.out (by intro e he; simp at he; rcases he with he | he <;> simp [he]) | exact HK.out _ _ S8.out (by intro e he; simp at he; rcases he with he | he <;> simp [he]) | exact HK.out _ _ S9.out (by intro e he; simp at he; rcases he with he | he <;> simp [he]) | exact HK.out _ _ S10.out (by intro e he; simp at he; rcases he with he | he <;> simp [he]) | exact HK.out _ _ S11.out (by intro e he; simp at he; rcases he with he | he <;> simp [he]) | exact HK.out _ _ S12.out (by intro e he; simp at he; rcases he with he | he <;> simp [he]) | go_keep) (first
              | (go_at_call 19; (with_reducible refine ((hbb.out ▸ step_spr (f := f) (t := t) SE.out S4.out SMX.out LB.out HFR.out rfl HG1.out HZ1.out rfl HG2.out HZ2.out HF.out H8.out (rowX_b8 BR.out n fr) hnf.out)).mono ?_); rintro e w5 ⟨rfl, hh⟩; have S5 := Lib.hid hh; clear hh S4))
            go_wp2_with fail
            go_ret
            exact ⟨by rw [HE.out]; rfl, by rw [HL.out]; exact HFIN.out _ _ S5.out⟩
          · have q4 : (k == 4) = false := by simpa using k4
            have HE : Hid (stepE k to fr row f t L = 0) := Lib.hid (by unfold stepE; rw [if_neg (by omega), if_neg k3, if_neg k4])
            have HL : Hid (stepL k c to fr row f t L = L) := Lib.hid (by unfold stepL; rw [if_neg k0, if_neg k1, if_neg k2, if_neg k3, if_neg k4])
            go_wp2_with ((with_reducible refine at_slot (N := 6) rfl ?_); refine box_law rfl _ _ (stepC k c T F AR m cR f t) rfl rfl S0.out ?_; intro ob w1 h1; have z0 := (h1.blk mem0).cell (i := 0) rfl; have z4 := (h1.blk mem0).cell (i := 4) rfl; (try simp only [World.size_alloc, List.nil_append, List.cons_append, List.append_eq] at h1); have S1 := Lib.hid h1; clear h1 S0)

            (try clear z0 z4)
            obtain ⟨MX, HMX⟩ : ∃ X, Hid ((⟨ob, 55, stepC k c T F AR m cR f t⟩ : Ent) :: M = X) := ⟨_, Lib.hid rfl⟩
            have S2 : Hid (St w0 w1 [] (GH ++ (ents bsH L ++ MX))) := Lib.hid (by
              rw [← HMX.out]
              have hp := (List.perm_middle (a := (⟨ob, 55, stepC k c T F AR m cR f t⟩ : Ent)) (l₁ := GH ++ ents bsH L) (l₂ := M)).symm
              have h1 := S1.out
              rw [← List.append_assoc] at h1
              have h2 := h1.perm hp
              rw [List.append_assoc] at h2
              exact h2)
            have HK : Hid (∀ (w' : World) (N' : List Ent), St w0 w' [] N' → (∀ e ∈ GH ++ MX, e ∈ N') → w'.cell? ⟨hb, ho + to, none⟩ = some (.slice (some ⟨a, 0, none⟩) nt nt) ∧ w'.cell? ⟨hb, ho + fr, none⟩ = some (.slice (some ⟨b, 0, none⟩) nf nf) ∧ w'.cell? ⟨ob, 0, none⟩ = some (.int .i64 k) ∧ w'.cell? ⟨ob, 1, none⟩ = some (.int .u8 (c : Int)) ∧ w'.cell? ⟨ob, 4, none⟩ = some (.slice AR m cR) ∧ w'.cell? ⟨ob, 5, none⟩ = some (.int .i64 f) ∧ w'.cell? ⟨ob, 6, none⟩ = some (.int .i64 t)) := Lib.hid (fun w' N' hs hm => by
              have hG : ∀ e ∈ GH, e ∈ N' := fun e he => hm e (List.mem_append_left _ he)
              have hS : (⟨ob, 55, stepC k c T F AR m cR f t⟩ : Ent) ∈ N' := hm _ (List.mem_append_right _ (by rw [← HMX.out]; exact mem0))
              exact ⟨HK1.out w' N' hs hG, HK2.out w' N' hs hG, (hs.blk hS).cell (i := 0) rfl, (hs.blk hS).cell (i := 1) rfl, (hs.blk hS).cell (i := 4) rfl, (hs.blk hS).cell (i := 5) rfl, (hs.blk hS).cell (i := 6) rfl⟩)
            have SMX : Hid (∀ e ∈ S, e ∈ MX) := Lib.hid (fun e he => by rw [← HMX.out]; exact List.mem_cons_of_mem _ (SM.out e he))
            have HFIN : Hid (∀ (w' : World) (L' : List (List Nat)), St w0 w' [] (GH ++ (ents bsH L' ++ MX)) → St w0 w' [] (GH ++ (ents bsH L' ++ M))) := Lib.hid (fun w' L' hs => by
              rw [← HMX.out] at hs
              exact hs.drop ((List.Sublist.refl _).append ((List.Sublist.refl _).append (List.sublist_cons_self _ _))))
            clear S1 HK1 HK2 SM HMX
            go_ret
            exact ⟨by rw [HE.out]; rfl, by rw [HL.out]; exact HFIN.out _ _ S2.out⟩

end Go.Proofs.Ytdbfkjhdnbmpeaa.Sk

namespace Go.Proofs.Ytdbfkjhdnbmpeaa.Sk
set_option linter.unusedSimpArgs false
set_option linter.unusedVariables false
open Go Go.RowKit Go.Proofs.Ytdbfkjhdnbmpeaa Go.Proofs.Ytdbfkjhdnbmpeaa.Mm Go.Proofs.Ytdbfkjhdnbmpeaa.Gf Go.Proofs.Ytdbfkjhdnbmpeaa.Wr Go.Proofs.Ytdbfkjhdnbmpeaa.Nb Go.Proofs.Ytdbfkjhdnbmpeaa.St

theorem map_erase {α β : Type} (f : α → β) : ∀ (l : List α) (i : Nat), (l.map f).eraseIdx i = (l.eraseIdx i).map f
  | [], i => by simp
  | a :: l, 0 => rfl
  | a :: l, i + 1 => by
    show f a :: (l.map f).eraseIdx i = f a :: (l.eraseIdx i).map f
    rw [map_erase f l i]
theorem CopyT.shape {A : Option Addr} {n c : Nat} {T : TT} {G : List Ent} (h : CopyT A n c T G) (hn : 0 < n) : ∃ g cur, A = some ⟨g, 0, none⟩ ∧ G = [⟨g, 39, cur⟩] := by
  rcases h.2.1.2 with ⟨B, e, h0, _⟩ | ⟨g, cap, cur, e, _, _, _, _, _, hG⟩
  · injection e with e1 e2 e3
    omega
  · injection e with e1 e2 e3
    exact ⟨g, cur, e1, hG⟩
theorem CopyT.setT {g n c i b m : Nat} {cur : Array Value} {E : List Nat} {T : TT} (h : CopyT (some ⟨g, 0, none⟩) n c T [⟨g, 39, cur⟩]) (hi : i < n) (hE : m ≤ E.length ∧ E.length ≤ maxLen ∧ B8 E) :
    CopyT (some ⟨g, 0, none⟩) n c (T.set i (b, E, m)) [⟨g, 39, cur.setIfInBounds i (.slice (some ⟨b, 0, none⟩) m E.length)⟩] := by
  refine ⟨by rw [List.length_set]; exact h.1, ?_, fun x hx => (List.mem_or_eq_of_mem_set hx).elim (h.2.2 x) (fun e => by rw [e]; exact hE)⟩
  have es1 : sdT (T.set i (b, E, m)) = (sdT T).set i ⟨some ⟨b, 0, none⟩, m, E.length⟩ := by unfold sdT; rw [List.map_set]
  have hr := h.2.1.2
  rw [es1]
  refine ⟨by simp, .inr ?_⟩
  rcases hr with ⟨B, e, h0, hG⟩ | ⟨g', cap, cur', e, h1, h2, h3, h4, h5, hG⟩
  · simp at hG
  · injection e with e1 e2 e3
    injection e1 with e1
    injection e1 with e1 _ _
    injection hG with hG _
    injection hG with _ _ hc
    subst e1 hc
    refine ⟨g, cap, cur.setIfInBounds i (.slice (some ⟨b, 0, none⟩) m E.length), ?_, ?_, h2, by simpa using h3, ?_, ?_, rfl⟩
    · rw [List.length_set, ← e2, e3]
    · rw [List.length_set]; exact h1
    · rw [Array.toList_setIfInBounds, List.length_set, List.take_set, h4, List.map_set]
    · intro u hu
      rw [Array.toList_setIfInBounds] at hu
      rcases List.mem_or_eq_of_mem_set hu with hu | rfl
      · exact h5 u hu
      · exact ⟨⟨some ⟨b, 0, none⟩, m, E.length⟩, rfl⟩
theorem told_put {w0 w : World} {G' M : List Ent} {T : TT} {i bw m : Nat} {E : List Nat} (h : St w0 w [] (bt bw E :: (G' ++ (enT T ++ M)))) (hi : i < T.length) : St w0 w [] (G' ++ (enT (T.set i (bw, E, m)) ++ M)) := by
  obtain ⟨P, b, D, m0, Q, hT, hP⟩ := split_T hi
  have e1 : enT T = enT P ++ bt b D :: enT Q := by rw [hT]; simp [enT]
  have e2 : enT (T.set i (bw, E, m)) = enT P ++ bt bw E :: enT Q := by
    rw [hT, List.set_append_right _ _ (by omega), hP, Nat.sub_self, List.set_cons_zero]; simp [enT]
  rw [e2]
  rw [e1] at h
  have h1 : St w0 w [] (bt bw E :: ((G' ++ enT P) ++ (bt b D :: (enT Q ++ M)))) := by simpa only [List.append_assoc, List.cons_append] using h
  have h2 := h1.drop (List.Sublist.cons_cons (bt bw E) ((List.Sublist.refl (G' ++ enT P)).append (List.sublist_cons_self (bt b D) (enT Q ++ M))))
  have h3 := h2.perm List.perm_middle.symm
  simpa only [List.append_assoc, List.cons_append] using h3
theorem liT_set {T : TT} {i b m : Nat} {E l : List Nat} (hl : E.take m = l) : liT (T.set i (b, E, m)) = (liT T).set i l := by
  unfold liT; rw [List.map_set, hl]
theorem liT_erase (T : TT) (i : Nat) : liT (T.eraseIdx i) = (liT T).eraseIdx i := by
  unfold liT
  rw [map_erase]
theorem sdT_erase (T : TT) (i : Nat) : (sdT T).eraseIdx i = sdT (T.eraseIdx i) := by
  unfold sdT
  rw [map_erase]

theorem ins_perm {α : Type} (x : α) : ∀ (l : List α) (i : Nat), i ≤ l.length → (l.insertIdx i x).Perm (x :: l)
  | l, 0, _ => List.Perm.refl _
  | [], i + 1, h => by simp at h
  | a :: l, i + 1, h => ((ins_perm x l i (by simpa using h)).cons a).trans (List.Perm.swap _ _ _)
theorem map_ins {α β : Type} (f : α → β) (x : α) : ∀ (l : List α) (i : Nat), (l.insertIdx i x).map f = (l.map f).insertIdx i (f x)
  | l, 0 => rfl
  | [], i + 1 => rfl
  | a :: l, i + 1 => by
    show f a :: (l.insertIdx i x).map f = f a :: (l.map f).insertIdx i (f x)
    rw [map_ins f x l i]
theorem ins_get {α : Type} {l : List α} {i j : Nat} {x : α} (h : i ≤ l.length) : (l.insertIdx i x)[j]? = if j < i then l[j]? else if j = i then some x else l[j - 1]? := by
  rw [List.getElem?_insertIdx]
  split
  · rfl
  · split
    · rename_i h1 h2; rw [if_pos (by omega)]
    · rfl
/-- Lists of which the first i are taken over: the next one. -/
theorem mix_skip {α : Type} {A B : List α} {i : Nat} (ha : i < A.length) (hb : i < B.length) (h : A[i]? = B[i]?) : A.take (i + 1) ++ B.drop (i + 1) = A.take i ++ B.drop i := by
  rw [List.take_succ_eq_append_getElem ha, List.drop_eq_getElem_cons hb, List.append_assoc]
  rw [List.getElem?_eq_getElem ha, List.getElem?_eq_getElem hb] at h
  rw [Option.some.inj h]; rfl
theorem mix_step {α : Type} {A B : List α} {i : Nat} {x : α} (ha : i < A.length) (hb : i < B.length) (h : A[i]? = some x) : A.take (i + 1) ++ B.drop (i + 1) = (A.take i ++ B.drop i).set i x := by
  rw [List.take_succ_eq_append_getElem ha, List.drop_eq_getElem_cons hb]
  rw [List.getElem?_eq_getElem ha] at h
  rw [Option.some.inj h]
  have hl : (A.take i).length = i := by rw [List.length_take]; omega
  rw [List.set_append_right _ _ (by omega), hl, Nat.sub_self, List.set_cons_zero, List.append_assoc]
  rfl
/-- The lists of a Spread by the document, with the slice that is left as it is. -/
theorem told_ins {w0 w : World} {GE : Ent} {G1 G2 G3 MX : List Ent} {T T2 : TT} {i b m : Nat} {D : List Nat} (h : St w0 w [] (((G3 ++ enT T2) ++ (G1 ++ G2)) ++ GE :: (enT T ++ MX))) (hi : T[i]? = some (b, D, m)) (h2 : i ≤ T2.length) : St w0 w [] ([GE] ++ (enT (T2.insertIdx i (b, D, m)) ++ MX)) := by
  have hm : bt b D ∈ enT T := List.mem_map.2 ⟨_, List.mem_of_getElem? hi, rfl⟩
  have s1 : (enT T2).Sublist ((G3 ++ enT T2) ++ (G1 ++ G2)) := (List.sublist_append_right G3 _).trans (List.sublist_append_left _ _)
  have s2 : ([bt b D] ++ MX).Sublist (enT T ++ MX) := (List.singleton_sublist.2 hm).append (List.Sublist.refl _)
  have h3 := h.drop (s1.append (s2.cons_cons GE))
  have hp : (enT (T2.insertIdx i (b, D, m))).Perm (bt b D :: enT T2) := (ins_perm (b, D, m) T2 i h2).map _
  refine h3.perm ?_
  refine List.perm_middle.trans ((List.Perm.trans ?_ (hp.append_right MX).symm).cons GE)
  exact List.perm_middle

end Go.Proofs.Ytdbfkjhdnbmpeaa.Sk

namespace Go.Proofs.Ytdbfkjhdnbmpeaa.Sk
set_option linter.unusedSimpArgs false
set_option linter.unusedVariables false
open Go Go.RowKit Go.Proofs.Ytdbfkjhdnbmpeaa Go.Proofs.Ytdbfkjhdnbmpeaa.Mm Go.Proofs.Ytdbfkjhdnbmpeaa.Gf Go.Proofs.Ytdbfkjhdnbmpeaa.Wr Go.Proofs.Ytdbfkjhdnbmpeaa.Nb Go.Proofs.Ytdbfkjhdnbmpeaa.St

set_option maxRecDepth 100000 in
set_option maxHeartbeats 8000000 in
theorem told_st {M G : List Ent} {w0 w : World} {k T0 F0 f t : Int} {c m cR n cW to fr : Nat} {AR AW : Option Addr} {row : List Nat} {T : TT} {L : List (List Nat)} (h : St w0 w [] (G ++ (enT T ++ M))) (hcT : CopyT AW n cW T G) (hL : liT T = L) (hto : to < n) (hfr : fr < n) (hc : c < 256) (hm : row.length = m) (um : m ≤ 140737488351232) (rr : Rd w0 AR row) (br : B8 row) (hf : Fit L) (h8 : B8L L) :
    Calls Try.prog 24 #[.agg (stepC k c T0 F0 AR m cR f t), .slice AW n cW, .int .i64 (to : Int), .int .i64 (fr : Int)] w fun e w' => ∃ T' G', e = .returned (.int .i64 (stepE k to fr row f t L)) ∧ CopyT AW n cW T' G' ∧ liT T' = stepL k c to fr row f t L ∧ St w0 w' [] (G' ++ (enT T' ++ M)) := by
  have HM := Lib.hid hm; have RR := Lib.hid rr; have BR := Lib.hid br; have HF := Lib.hid hf; have H8 := Lib.hid h8; have HLL := Lib.hid hL
  have LT : Hid (T.length = n) := Lib.hid hcT.1
  have LN : Hid (L.length = n) := Lib.hid (by rw [← hL, liT_length, hcT.1])
  have hn24 : n * 24 ≤ 140737488351232 := by rw [← LN.out]; exact hf.1
  obtain ⟨g, cur, eA, eG⟩ := hcT.shape (by omega)
  subst eA eG
  have S0 := Lib.hid h; have CT := Lib.hid hcT
  have hlt : to < T.length := by rw [LT.out]; exact hto
  have hlf : fr < T.length := by rw [LT.out]; exact hfr
  obtain ⟨a, DT, nt, hTt⟩ : ∃ a D x, T[to]? = some (a, D, x) := ⟨T[to].1, T[to].2.1, T[to].2.2, by simp [hlt]⟩
  obtain ⟨b, DF, nf, hTf⟩ : ∃ a D x, T[fr]? = some (a, D, x) := ⟨T[fr].1, T[fr].2.1, T[fr].2.2, by simp [hlf]⟩
  have getT : ∀ {i a D x}, T[i]? = some (a, D, x) → L.getD i [] = D.take x ∧ bt a D ∈ enT T ∧ x ≤ D.length := fun {i a D x} hi => by
    have hmem := List.mem_of_getElem? hi
    refine ⟨by rw [← hL]; unfold liT; rw [List.getD_eq_getElem?_getD, List.getElem?_map, hi]; rfl, List.mem_map.2 ⟨_, hmem, rfl⟩, (hcT.2.2 _ hmem).1⟩
  obtain ⟨gt1, gt2, gt3⟩ := getT hTt
  obtain ⟨gf1, gf2, gf3⟩ := getT hTf
  have hnt : (L.getD to []).length = nt := by rw [gt1, List.length_take]; omega
  have hnf : (L.getD fr []).length = nf := by rw [gf1, List.length_take]; omega
  have ut : nt ≤ 140737488351232 := by rw [← hnt]; exact hf.get to
  have uf : nf ≤ 140737488351232 := by rw [← hnf]; exact hf.get fr
  obtain ⟨hb, ho, e1, hk1⟩ := hcT.hdr hTt h (fun e he => List.mem_append_left _ he)
  obtain ⟨hb2, ho2, e2, hk2⟩ := hcT.hdr hTf h (fun e he => List.mem_append_left _ he)
  injection e1 with e1; injection e1 with e1a e1b _
  injection e2 with e2; injection e2 with e2a e2b _
  subst e1a e1b e2a e2b
  have HK1 := Lib.hid hk1; have HK2 := Lib.hid hk2
  have GT1 := Lib.hid gt1; have GT2 := Lib.hid gt2; have GF1 := Lib.hid gf1; have GF2 := Lib.hid gf2; have HNT := Lib.hid hnt; have HNF := Lib.hid hnf
  have RDT : Hid (∀ (w' : World) (N' : List Ent), St w0 w' [] N' → (∀ e ∈ enT T, e ∈ N') → Rd w' (some ⟨a, 0, none⟩) (L.getD to []) ∧ Rd w' (some ⟨b, 0, none⟩) (L.getD fr [])) := Lib.hid (fun w' N' hs hm => by
    have r1 := (hs.rd (hm _ gt2)).piece 0 nt
    have r2 := (hs.rd (hm _ gf2)).piece 0 nf
    rw [List.drop_zero] at r1 r2
    exact ⟨by rw [gt1]; exact r1, by rw [gf1]; exact r2⟩)
  clear h hcT hL hm rr br hf h8 hk1 hk2 gt1 gt2 gt3 gf1 gf2 gf3 hnt hnf hlt hlf getT
  go_enter Try.func24, Try.ntmps24
  have t1 : (to : Int) < (n : Int) := by omega
  have t2 : (fr : Int) < (n : Int) := by omega
  by_cases k0 : k = 0
  · subst k0
    have HE : Hid (stepE 0 to fr row f t L = lenE nt nf) := Lib.hid (by unfold stepE; rw [if_pos (.inl rfl), HNT.out, HNF.out])
    have HL : Hid (stepL 0 c to fr row f t L = L.set to (mulD c (L.getD to []) (L.getD fr []))) := Lib.hid (by unfold stepL; rw [if_pos rfl])
    go_wp2_with ((with_reducible refine at_slot (N := 4) rfl ?_); refine box_law rfl _ _ (stepC 0 c T0 F0 AR m cR f t) rfl rfl S0.out ?_; intro ob w1 h1; have z0 := (h1.blk mem0).cell (i := 0) rfl; have z4 := (h1.blk mem0).cell (i := 4) rfl; (try simp only [World.size_alloc, List.nil_append, List.cons_append, List.append_eq] at h1); have S1 := Lib.hid h1; clear h1 S0)
    (try clear z0 z4)
    obtain ⟨MX, HMX⟩ : ∃ X, Hid ((⟨ob, 55, stepC 0 c T0 F0 AR m cR f t⟩ : Ent) :: M = X) := ⟨_, Lib.hid rfl⟩
    have S2 : Hid (St w0 w1 [] ([⟨g, 39, cur⟩] ++ (enT T ++ MX))) := Lib.hid (by
      rw [← HMX.out]
      have hp := (List.perm_middle (a := (⟨ob, 55, stepC 0 c T0 F0 AR m cR f t⟩ : Ent)) (l₁ := [⟨g, 39, cur⟩] ++ enT T) (l₂ := M)).symm
      have h1 : St w0 w1 [] ((⟨ob, 55, stepC 0 c T0 F0 AR m cR f t⟩ : Ent) :: (([⟨g, 39, cur⟩] ++ enT T) ++ M)) := by simpa only [List.append_assoc, List.cons_append, List.nil_append] using S1.out
      have h2 := h1.perm hp
      rw [List.append_assoc] at h2
      exact h2)
    have HK : Hid (∀ (w' : World) (N' : List Ent), St w0 w' [] N' → (∀ e ∈ [⟨g, 39, cur⟩] ++ MX, e ∈ N') → w'.cell? ⟨g, to, none⟩ = some (.slice (some ⟨a, 0, none⟩) nt DT.length) ∧ w'.cell? ⟨g, fr, none⟩ = some (.slice (some ⟨b, 0, none⟩) nf DF.length) ∧ w'.cell? ⟨ob, 0, none⟩ = some (.int .i64 0) ∧ w'.cell? ⟨ob, 1, none⟩ = some (.int .u8 (c : Int)) ∧ w'.cell? ⟨ob, 4, none⟩ = some (.slice AR m cR) ∧ w'.cell? ⟨ob, 5, none⟩ = some (.int .i64 f) ∧ w'.cell? ⟨ob, 6, none⟩ = some (.int .i64 t)) := Lib.hid (fun w' N' hs hm => by
      have hG : ∀ e ∈ ([⟨g, 39, cur⟩] : List Ent), e ∈ N' := fun e he => hm e (List.mem_append_left _ he)
      have hS : (⟨ob, 55, stepC 0 c T0 F0 AR m cR f t⟩ : Ent) ∈ N' := hm _ (List.mem_append_right _ (by rw [← HMX.out]; exact mem0))
      have x1 := HK1.out w' N' hs hG; have x2 := HK2.out w' N' hs hG
      rw [Nat.zero_add] at x1 x2
      exact ⟨x1, x2, (hs.blk hS).cell (i := 0) rfl, (hs.blk hS).cell (i := 1) rfl, (hs.blk hS).cell (i := 4) rfl, (hs.blk hS).cell (i := 5) rfl, (hs.blk hS).cell (i := 6) rfl⟩)
    have HFIN : Hid (∀ (w' : World) (G' : List Ent) (T' : TT), St w0 w' [] (G' ++ (enT T' ++ MX)) → St w0 w' [] (G' ++ (enT T' ++ M))) := Lib.hid (fun w' G' T' hs => by
      rw [← HMX.out] at hs
      exact hs.drop ((List.Sublist.refl _).append ((List.Sublist.refl _).append (List.sublist_cons_self _ _))))
    clear S1 HK1 HK2 HMX
    have HX := Lib.hid (dmul_st (c := c) (c1 := DT.length) (c2 := DF.length) (w := w1.drew) false hc HNT.out HNF.out ut (RDT.out _ _ S2.out.drew (fun e he => by simp [he])).1 (RDT.out _ _ S2.out.drew (fun e he => by simp [he])).2 (H8.out.get to) (H8.out.get fr))
    simp only [Bool.false_eq_true, if_false] at HX
    obtain ⟨y0, y1, y2, y3, y4, y5, y6⟩ := HK.out _ _ S2.out (by intro e he; simp at he; rcases he with he | he <;> simp [he])
    obtain ⟨X, HXX⟩ : ∃ X, Hid (mulD c (L.getD to []) (L.getD fr []) = X) := ⟨_, Lib.hid rfl⟩
    rw [HXX.out] at HX HL
    have HY : Hid (Calls Try.prog 37 #[.int .u8 (c : Int), .slice (some ⟨a, 0, none⟩) nt DT.length, .slice (some ⟨b, 0, none⟩) nf DF.length, .bool false] w1.drew fun e w' => ∃ bw E, e = .returned (.tuple #[.slice (some ⟨bw, 0, none⟩) nt E.length, .int .i64 (lenE nt nf)]) ∧ Out nt E X ∧ St w0 w' [] (bt bw E :: (⟨g, 39, cur⟩ :: (enT T ++ MX))) ∧ w'.cell? ⟨g, to, none⟩ = some (.slice (some ⟨a, 0, none⟩) nt DT.length) ∧ w'.frozen? ⟨g, to, none⟩ = false) := Lib.hid (HX.out.mono fun e w' ⟨bw, E, he, ho, hs⟩ => by
      have h3 : St w0 w' [] (bt bw E :: (⟨g, 39, cur⟩ :: (enT T ++ MX))) := S2.out.drew.call hs
      exact ⟨bw, E, he, ho, h3, (HK.out _ _ h3 (by intro e he; simp at he; rcases he with he | he <;> simp [he])).1, (h3.blk (by simp : (⟨g, 39, cur⟩ : Ent) ∈ _)).free⟩)
    clear HX
    go_region_law ((go_simp; go_at_call 37; refine HY.out.mono ?_; rintro e w' ⟨bw, E, rfl, ho, hs, yy, ff⟩; have HO := Lib.hid ho; have S5 := Lib.hid hs; clear ho hs))
    all_goals
      clear y0 y1 y2 y3 y4 y5 y6 yy ff
      have h6 := told_put (m := nt) (G' := [⟨g, 39, cur.setIfInBounds to (.slice (some ⟨bw, 0, none⟩) nt E.length)⟩]) (St.setN (N1 := [bt bw E]) (.slice (some ⟨bw, 0, none⟩) nt E.length) to S5.out) (show to < T.length by rw [LT.out]; exact hto)
      have S6 := Lib.hid h6
      clear h6
      go_wp2_with fail
      go_ret
      exact ⟨T.set to (bw, E, nt), _, by rw [HE.out]; rfl, CopyT.setT CT.out hto ⟨HO.out.1, HO.out.2.1, HO.out.2.2.1⟩, by rw [liT_set HO.out.2.2.2, HLL.out, HL.out], HFIN.out _ _ _ S6.out⟩
  · have q0 : (k == 0) = false := by simpa using k0
    by_cases k1 : k = 1
    · subst k1
      have HE : Hid (stepE 1 to fr row f t L = lenE nt nf) := Lib.hid (by unfold stepE; rw [if_pos (.inr (.inl rfl)), HNT.out, HNF.out])
      have HL : Hid (stepL 1 c to fr row f t L = L.set to (addD c (L.getD to []) (L.getD fr []))) := Lib.hid (by unfold stepL; rw [if_neg (by decide), if_pos rfl])
      go_wp2_with ((with_reducible refine at_slot (N := 4) rfl ?_); refine box_law rfl _ _ (stepC 1 c T0 F0 AR m cR f t) rfl rfl S0.out ?_; intro ob w1 h1; have z0 := (h1.blk mem0).cell (i := 0) rfl; have z4 := (h1.blk mem0).cell (i := 4) rfl; (try simp only [World.size_alloc, List.nil_append, List.cons_append, List.append_eq] at h1); have S1 := Lib.hid h1; clear h1 S0)
      (try clear z0 z4)
      obtain ⟨MX, HMX⟩ : ∃ X, Hid ((⟨ob, 55, stepC 1 c T0 F0 AR m cR f t⟩ : Ent) :: M = X) := ⟨_, Lib.hid rfl⟩
      have S2 : Hid (St w0 w1 [] ([⟨g, 39, cur⟩] ++ (enT T ++ MX))) := Lib.hid (by
        rw [← HMX.out]
        have hp := (List.perm_middle (a := (⟨ob, 55, stepC 1 c T0 F0 AR m cR f t⟩ : Ent)) (l₁ := [⟨g, 39, cur⟩] ++ enT T) (l₂ := M)).symm
        have h1 : St w0 w1 [] ((⟨ob, 55, stepC 1 c T0 F0 AR m cR f t⟩ : Ent) :: (([⟨g, 39, cur⟩] ++ enT T) ++ M)) := by simpa only [List.append_assoc, List.cons_append, List.nil_append] using S1.out
        have h2 := h1.perm hp
        rw [List.append_assoc] at h2
        exact h2)
      have HK : Hid (∀ (w' : World) (N' : List Ent), St w0 w' [] N' → (∀ e ∈ [⟨g, 39, cur⟩] ++ MX, e ∈ N') → w'.cell? ⟨g, to, none⟩ = some (.slice (some ⟨a, 0, none⟩) nt DT.length) ∧ w'.cell? ⟨g, fr, none⟩ = some (.slice (some ⟨b, 0, none⟩) nf DF.length) ∧ w'.cell? ⟨ob, 0, none⟩ = some (.int .i64 1) ∧ w'.cell? ⟨ob, 1, none⟩ = some (.int .u8 (c : Int)) ∧ w'.cell? ⟨ob, 4, none⟩ = some (.slice AR m cR) ∧ w'.cell? ⟨ob, 5, none⟩ = some (.int .i64 f) ∧ w'.cell? ⟨ob, 6, none⟩ = some (.int .i64 t)) := Lib.hid (fun w' N' hs hm => by
        have hG : ∀ e ∈ ([⟨g, 39, cur⟩] : List Ent), e ∈ N' := fun e he => hm e (List.mem_append_left _ he)
        have hS : (⟨ob, 55, stepC 1 c T0 F0 AR m cR f t⟩ : Ent) ∈ N' := hm _ (List.mem_append_right _ (by rw [← HMX.out]; exact mem0))
        have x1 := HK1.out w' N' hs hG; have x2 := HK2.out w' N' hs hG
        rw [Nat.zero_add] at x1 x2
        exact ⟨x1, x2, (hs.blk hS).cell (i := 0) rfl, (hs.blk hS).cell (i := 1) rfl, (hs.blk hS).cell (i := 4) rfl, (hs.blk hS).cell (i := 5) rfl, (hs.blk hS).cell (i := 6) rfl⟩)
      have HFIN : Hid (∀ (w' : World) (G' : List Ent) (T' : TT), St w0 w' [] (G' ++ (enT T' ++ MX)) → St w0 w' [] (G' ++ (enT T' ++ M))) := Lib.hid (fun w' G' T' hs => by
        rw [← HMX.out] at hs
        exact hs.drop ((List.Sublist.refl _).append ((List.Sublist.refl _).append (List.sublist_cons_self _ _))))
      clear S1 HK1 HK2 HMX
      have HX := Lib.hid (dmul_st (c := c) (c1 := DT.length) (c2 := DF.length) (w := w1.drew) true hc HNT.out HNF.out ut (RDT.out _ _ S2.out.drew (fun e he => by simp [he])).1 (RDT.out _ _ S2.out.drew (fun e he => by simp [he])).2 (H8.out.get to) (H8.out.get fr))
      simp only [if_true] at HX
      obtain ⟨y0, y1, y2, y3, y4, y5, y6⟩ := HK.out _ _ S2.out (by intro e he; simp at he; rcases he with he | he <;> simp [he])
      obtain ⟨X, HXX⟩ : ∃ X, Hid (addD c (L.getD to []) (L.getD fr []) = X) := ⟨_, Lib.hid rfl⟩
      rw [HXX.out] at HX HL
      have HY : Hid (Calls Try.prog 37 #[.int .u8 (c : Int), .slice (some ⟨a, 0, none⟩) nt DT.length, .slice (some ⟨b, 0, none⟩) nf DF.length, .bool true] w1.drew fun e w' => ∃ bw E, e = .returned (.tuple #[.slice (some ⟨bw, 0, none⟩) nt E.length, .int .i64 (lenE nt nf)]) ∧ Out nt E X ∧ St w0 w' [] (bt bw E :: (⟨g, 39, cur⟩ :: (enT T ++ MX))) ∧ w'.cell? ⟨g, to, none⟩ = some (.slice (some ⟨a, 0, none⟩) nt DT.length) ∧ w'.frozen? ⟨g, to, none⟩ = false) := Lib.hid (HX.out.mono fun e w' ⟨bw, E, he, ho, hs⟩ => by
        have h3 : St w0 w' [] (bt bw E :: (⟨g, 39, cur⟩ :: (enT T ++ MX))) := S2.out.drew.call hs
        exact ⟨bw, E, he, ho, h3, (HK.out _ _ h3 (by intro e he; simp at he; rcases he with he | he <;> simp [he])).1, (h3.blk (by simp : (⟨g, 39, cur⟩ : Ent) ∈ _)).free⟩)
      clear HX
      go_region_law ((go_simp; go_at_call 37; refine HY.out.mono ?_; rintro e w' ⟨bw, E, rfl, ho, hs, yy, ff⟩; have HO := Lib.hid ho; have S5 := Lib.hid hs; clear ho hs))
      all_goals
        clear y0 y1 y2 y3 y4 y5 y6 yy ff
        have h6 := told_put (m := nt) (G' := [⟨g, 39, cur.setIfInBounds to (.slice (some ⟨bw, 0, none⟩) nt E.length)⟩]) (St.setN (N1 := [bt bw E]) (.slice (some ⟨bw, 0, none⟩) nt E.length) to S5.out) (show to < T.length by rw [LT.out]; exact hto)
        have S6 := Lib.hid h6
        clear h6
        go_wp2_with fail
        go_ret
        exact ⟨T.set to (bw, E, nt), _, by rw [HE.out]; rfl, CopyT.setT CT.out hto ⟨HO.out.1, HO.out.2.1, HO.out.2.2.1⟩, by rw [liT_set HO.out.2.2.2, HLL.out, HL.out], HFIN.out _ _ _ S6.out⟩
    · have q1 : (k == 1) = false := by simpa using k1
      by_cases k2 : k = 2
      · subst k2
        have HE : Hid (stepE 2 to fr row f t L = lenE nt nf) := Lib.hid (by unfold stepE; rw [if_pos (.inr (.inr rfl)), HNT.out, HNF.out])
        have HL : Hid (stepL 2 c to fr row f t L = L.set to (xorD (L.getD to []) (L.getD fr []))) := Lib.hid (by unfold stepL; rw [if_neg (by decide), if_neg (by decide), if_pos rfl])
        go_wp2_with ((with_reducible refine at_slot (N := 4) rfl ?_); refine box_law rfl _ _ (stepC 2 c T0 F0 AR m cR f t) rfl rfl S0.out ?_; intro ob w1 h1; have z0 := (h1.blk mem0).cell (i := 0) rfl; have z4 := (h1.blk mem0).cell (i := 4) rfl; (try simp only [World.size_alloc, List.nil_append, List.cons_append, List.append_eq] at h1); have S1 := Lib.hid h1; clear h1 S0)
        (try clear z0 z4)
        obtain ⟨MX, HMX⟩ : ∃ X, Hid ((⟨ob, 55, stepC 2 c T0 F0 AR m cR f t⟩ : Ent) :: M = X) := ⟨_, Lib.hid rfl⟩
        have S2 : Hid (St w0 w1 [] ([⟨g, 39, cur⟩] ++ (enT T ++ MX))) := Lib.hid (by
          rw [← HMX.out]
          have hp := (List.perm_middle (a := (⟨ob, 55, stepC 2 c T0 F0 AR m cR f t⟩ : Ent)) (l₁ := [⟨g, 39, cur⟩] ++ enT T) (l₂ := M)).symm
          have h1 : St w0 w1 [] ((⟨ob, 55, stepC 2 c T0 F0 AR m cR f t⟩ : Ent) :: (([⟨g, 39, cur⟩] ++ enT T) ++ M)) := by simpa only [List.append_assoc, List.cons_append, List.nil_append] using S1.out
          have h2 := h1.perm hp
          rw [List.append_assoc] at h2
          exact h2)
        have HK : Hid (∀ (w' : World) (N' : List Ent), St w0 w' [] N' → (∀ e ∈ [⟨g, 39, cur⟩] ++ MX, e ∈ N') → w'.cell? ⟨g, to, none⟩ = some (.slice (some ⟨a, 0, none⟩) nt DT.length) ∧ w'.cell? ⟨g, fr, none⟩ = some (.slice (some ⟨b, 0, none⟩) nf DF.length) ∧ w'.cell? ⟨ob, 0, none⟩ = some (.int .i64 2) ∧ w'.cell? ⟨ob, 1, none⟩ = some (.int .u8 (c : Int)) ∧ w'.cell? ⟨ob, 4, none⟩ = some (.slice AR m cR) ∧ w'.cell? ⟨ob, 5, none⟩ = some (.int .i64 f) ∧ w'.cell? ⟨ob, 6, none⟩ = some (.int .i64 t)) := Lib.hid (fun w' N' hs hm => by
          have hG : ∀ e ∈ ([⟨g, 39, cur⟩] : List Ent), e ∈ N' := fun e he => hm e (List.mem_append_left _ he)
          have hS : (⟨ob, 55, stepC 2 c T0 F0 AR m cR f t⟩ : Ent) ∈ N' := hm _ (List.mem_append_right _ (by rw [← HMX.out]; exact mem0))
          have x1 := HK1.out w' N' hs hG; have x2 := HK2.out w' N' hs hG
          rw [Nat.zero_add] at x1 x2
          exact ⟨x1, x2, (hs.blk hS).cell (i := 0) rfl, (hs.blk hS).cell (i := 1) rfl, (hs.blk hS).cell (i := 4) rfl, (hs.blk hS).cell (i := 5) rfl, (hs.blk hS).cell (i := 6) rfl⟩)
        have HFIN : Hid (∀ (w' : World) (G' : List Ent) (T' : TT), St w0 w' [] (G' ++ (enT T' ++ MX)) → St w0 w' [] (G' ++ (enT T' ++ M))) := Lib.hid (fun w' G' T' hs => by
          rw [← HMX.out] at hs
          exact hs.drop ((List.Sublist.refl _).append ((List.Sublist.refl _).append (List.sublist_cons_self _ _))))
        clear S1 HK1 HK2 HMX
        have HX := Lib.hid (dmul_st (c := 1) (c1 := DT.length) (c2 := DF.length) (w := w1.drew) true (by decide) HNT.out HNF.out ut (RDT.out _ _ S2.out.drew (fun e he => by simp [he])).1 (RDT.out _ _ S2.out.drew (fun e he => by simp [he])).2 (H8.out.get to) (H8.out.get fr))
        simp only [if_true] at HX
        rw [add_one (H8.out.get fr)] at HX
        obtain ⟨y0, y1, y2, y3, y4, y5, y6⟩ := HK.out _ _ S2.out (by intro e he; simp at he; rcases he with he | he <;> simp [he])
        obtain ⟨X, HXX⟩ : ∃ X, Hid (xorD (L.getD to []) (L.getD fr []) = X) := ⟨_, Lib.hid rfl⟩
        rw [HXX.out] at HX HL
        have HY : Hid (Calls Try.prog 37 #[.int .u8 1, .slice (some ⟨a, 0, none⟩) nt DT.length, .slice (some ⟨b, 0, none⟩) nf DF.length, .bool true] w1.drew fun e w' => ∃ bw E, e = .returned (.tuple #[.slice (some ⟨bw, 0, none⟩) nt E.length, .int .i64 (lenE nt nf)]) ∧ Out nt E X ∧ St w0 w' [] (bt bw E :: (⟨g, 39, cur⟩ :: (enT T ++ MX))) ∧ w'.cell? ⟨g, to, none⟩ = some (.slice (some ⟨a, 0, none⟩) nt DT.length) ∧ w'.frozen? ⟨g, to, none⟩ = false) := Lib.hid (HX.out.mono fun e w' ⟨bw, E, he, ho, hs⟩ => by
          have h3 : St w0 w' [] (bt bw E :: (⟨g, 39, cur⟩ :: (enT T ++ MX))) := S2.out.drew.call hs
          exact ⟨bw, E, he, ho, h3, (HK.out _ _ h3 (by intro e he; simp at he; rcases he with he | he <;> simp [he])).1, (h3.blk (by simp : (⟨g, 39, cur⟩ : Ent) ∈ _)).free⟩)
        clear HX
        go_region_law ((go_simp; go_at_call 37; refine HY.out.mono ?_; rintro e w' ⟨bw, E, rfl, ho, hs, yy, ff⟩; have HO := Lib.hid ho; have S5 := Lib.hid hs; clear ho hs))
        all_goals
          clear y0 y1 y2 y3 y4 y5 y6 yy ff
          have h6 := told_put (m := nt) (G' := [⟨g, 39, cur.setIfInBounds to (.slice (some ⟨bw, 0, none⟩) nt E.length)⟩]) (St.setN (N1 := [bt bw E]) (.slice (some ⟨bw, 0, none⟩) nt E.length) to S5.out) (show to < T.length by rw [LT.out]; exact hto)
          have S6 := Lib.hid h6
          clear h6
          go_wp2_with fail
          go_ret
          exact ⟨T.set to (bw, E, nt), _, by rw [HE.out]; rfl, CopyT.setT CT.out hto ⟨HO.out.1, HO.out.2.1, HO.out.2.2.1⟩, by rw [liT_set HO.out.2.2.2, HLL.out, HL.out], HFIN.out _ _ _ S6.out⟩
      · have q2 : (k == 2) = false := by simpa using k2
        by_cases k3 : k = 3
        · subst k3
          have HE : Hid (stepE 3 to fr row f t L = dotE (rowX row n to) (L.eraseIdx to) nt) := Lib.hid (by unfold stepE; rw [if_neg (by decide), if_pos rfl, HNT.out, LN.out])
          have HL : Hid (stepL 3 c to fr row f t L = L.set to (dotD (rowX row n to) (L.eraseIdx to) (L.getD to []))) := Lib.hid (by unfold stepL; rw [if_neg (by decide), if_neg (by decide), if_neg (by decide), if_pos rfl, LN.out])
          go_wp2_with ((with_reducible refine at_slot (N := 4) rfl ?_); refine box_law rfl _ _ (stepC 3 c T0 F0 AR m cR f t) rfl rfl S0.out ?_; intro ob w1 h1; have z0 := (h1.blk mem0).cell (i := 0) rfl; have z4 := (h1.blk mem0).cell (i := 4) rfl; (try simp only [World.size_alloc, List.nil_append, List.cons_append, List.append_eq] at h1); have S1 := Lib.hid h1; clear h1 S0)
          (try clear z0 z4)
          obtain ⟨MX, HMX⟩ : ∃ X, Hid ((⟨ob, 55, stepC 3 c T0 F0 AR m cR f t⟩ : Ent) :: M = X) := ⟨_, Lib.hid rfl⟩
          have S2 : Hid (St w0 w1 [] ([⟨g, 39, cur⟩] ++ (enT T ++ MX))) := Lib.hid (by
            rw [← HMX.out]
            have hp := (List.perm_middle (a := (⟨ob, 55, stepC 3 c T0 F0 AR m cR f t⟩ : Ent)) (l₁ := [⟨g, 39, cur⟩] ++ enT T) (l₂ := M)).symm
            have h1 : St w0 w1 [] ((⟨ob, 55, stepC 3 c T0 F0 AR m cR f t⟩ : Ent) :: (([⟨g, 39, cur⟩] ++ enT T) ++ M)) := by simpa only [List.append_assoc, List.cons_append, List.nil_append] using S1.out
            have h2 := h1.perm hp
            rw [List.append_assoc] at h2
            exact h2)
          have HK : Hid (∀ (w' : World) (N' : List Ent), St w0 w' [] N' → (∀ e ∈ [⟨g, 39, cur⟩] ++ MX, e ∈ N') → w'.cell? ⟨g, to, none⟩ = some (.slice (some ⟨a, 0, none⟩) nt DT.length) ∧ w'.cell? ⟨g, fr, none⟩ = some (.slice (some ⟨b, 0, none⟩) nf DF.length) ∧ w'.cell? ⟨ob, 0, none⟩ = some (.int .i64 3) ∧ w'.cell? ⟨ob, 1, none⟩ = some (.int .u8 (c : Int)) ∧ w'.cell? ⟨ob, 4, none⟩ = some (.slice AR m cR) ∧ w'.cell? ⟨ob, 5, none⟩ = some (.int .i64 f) ∧ w'.cell? ⟨ob, 6, none⟩ = some (.int .i64 t)) := Lib.hid (fun w' N' hs hm => by
            have hG : ∀ e ∈ ([⟨g, 39, cur⟩] : List Ent), e ∈ N' := fun e he => hm e (List.mem_append_left _ he)
            have hS : (⟨ob, 55, stepC 3 c T0 F0 AR m cR f t⟩ : Ent) ∈ N' := hm _ (List.mem_append_right _ (by rw [← HMX.out]; exact mem0))
            have x1 := HK1.out w' N' hs hG; have x2 := HK2.out w' N' hs hG
            rw [Nat.zero_add] at x1 x2
            exact ⟨x1, x2, (hs.blk hS).cell (i := 0) rfl, (hs.blk hS).cell (i := 1) rfl, (hs.blk hS).cell (i := 4) rfl, (hs.blk hS).cell (i := 5) rfl, (hs.blk hS).cell (i := 6) rfl⟩)
          have HFIN : Hid (∀ (w' : World) (G' : List Ent) (T' : TT), St w0 w' [] (G' ++ (enT T' ++ MX)) → St w0 w' [] (G' ++ (enT T' ++ M))) := Lib.hid (fun w' G' T' hs => by
            rw [← HMX.out] at hs
            exact hs.drop ((List.Sublist.refl _).append ((List.Sublist.refl _).append (List.sublist_cons_self _ _))))
          clear S1 HK1 HK2 HMX
          refine (others_st (k := to) (ds := sdT T) (by rw [sdT_length, LT.out]) hn24 HM.out (S2.out.ext RR.out) BR.out (CT.out.rdV S2.out (fun e he => by simp at he; simp [he]))).mono ?_
          rintro e w3 ⟨R1, d1, R2, d2, G1, G2, rfl, hg1, hg2, hz1, hz2, hh⟩
          have h3 := S2.out.call hh; clear hh S2
          try simp only [List.nil_append, List.cons_append, List.append_eq, Int.toNat_natCast] at h3
          have HG1 := Lib.hid hg1; have HG2 := Lib.hid hg2; clear hg1 hg2 hz1 hz2; obtain ⟨y0, y1, y2, y3, y4, y5, y6⟩ := HK.out _ _ h3 (by intro e he; simp at he; rcases he with he | he <;> simp [he])
          have S3 := Lib.hid h3; clear h3
          have RK : Hid (CopyT R1 ((sdT T).eraseIdx to).length d1 (T.eraseIdx to) G1) := Lib.hid ⟨by rw [sdT_erase, sdT_length], by rw [← sdT_erase]; exact HG1.out, fun x hx => CT.out.2.2 x (List.mem_of_mem_eraseIdx hx)⟩
          have RL : RdL w3 [] R1 (L.eraseIdx to) := by
            have := RK.out.rd S3.out (fun e he => by simp [he]) (fun e he => by
              obtain ⟨x, hx, rfl⟩ := List.mem_map.1 he
              have : bt x.1 x.2.1 ∈ enT T := List.mem_map.2 ⟨x, List.mem_of_mem_eraseIdx hx, rfl⟩
              simp [this])
            rw [liT_erase, HLL.out] at this; exact this
          go_wp2_with fail
          refine (ddot_st (c3 := DT.length) (srcs := L.eraseIdx to) rfl (by rw [sdT_erase, sdT_length, ← liT_length, liT_erase, HLL.out]) HNT.out (fit_erase HF.out to) (by rw [rowX_length hto]; omega) ut (HG2.out.read S3.out (fun e he => by simp [he])) RL (RDT.out _ _ S3.out (fun e he => by simp [he])).1 (rowX_b8 BR.out n to) (b8_erase H8.out to) (H8.out.get to)).mono ?_
          rintro e w4 ⟨bw, E, rfl, ho, hh⟩
          have h4 := S3.out.call hh; clear hh S3
          try simp only [List.nil_append, List.cons_append, List.append_eq, Int.toNat_natCast] at h4
          have HO := Lib.hid ho; clear ho RL y0 y1 y2 y3 y4 y5 y6; replace h4 := h4.drop (List.Sublist.cons_cons _ (List.sublist_append_right (G1 ++ G2) _)); have yy := (HK.out _ _ h4 (by intro e he; simp at he; rcases he with he | he <;> simp [he])).1; have ff := (h4.blk (by simp : (⟨g, 39, cur⟩ : Ent) ∈ _)).free (i := to)
          have S4 := Lib.hid h4; clear h4
          go_wp2_with fail
          clear yy ff
          have S5 := S4
          have h6 := told_put (m := nt) (G' := [⟨g, 39, cur.setIfInBounds to (.slice (some ⟨bw, 0, none⟩) nt E.length)⟩]) (St.setN (N1 := [bt bw E]) (.slice (some ⟨bw, 0, none⟩) nt E.length) to S5.out) (show to < T.length by rw [LT.out]; exact hto)
          have S6 := Lib.hid h6
          clear h6
          go_ret
          exact ⟨T.set to (bw, E, nt), _, by rw [HE.out]; rfl, CopyT.setT CT.out hto ⟨HO.out.1, HO.out.2.1, HO.out.2.2.1⟩, by rw [liT_set HO.out.2.2.2, HLL.out, HL.out], HFIN.out _ _ _ S6.out⟩
        · have q3 : (k == 3) = false := by simpa using k3
          by_cases k4 : k = 4
          · subst k4
            have HE : Hid (stepE 4 to fr row f t L = sprE (rowX row n fr) (L.getD fr []) (L.eraseIdx fr) f t) := Lib.hid (by unfold stepE; rw [if_neg (by decide), if_neg (by decide), if_pos rfl, LN.out])
            have HL : Hid (stepL 4 c to fr row f t L = (sprD (rowX row n fr) (L.getD fr []) (L.eraseIdx fr) f t).insertIdx fr (L.getD fr [])) := Lib.hid (by unfold stepL; rw [if_neg (by decide), if_neg (by decide), if_neg (by decide), if_neg (by decide), if_pos rfl, LN.out])
            go_wp2_with ((with_reducible refine at_slot (N := 4) rfl ?_); refine box_law rfl _ _ (stepC 4 c T0 F0 AR m cR f t) rfl rfl S0.out ?_; intro ob w1 h1; have z0 := (h1.blk mem0).cell (i := 0) rfl; have z4 := (h1.blk mem0).cell (i := 4) rfl; (try simp only [World.size_alloc, List.nil_append, List.cons_append, List.append_eq] at h1); have S1 := Lib.hid h1; clear h1 S0)
            (try clear z0 z4)
            obtain ⟨MX, HMX⟩ : ∃ X, Hid ((⟨ob, 55, stepC 4 c T0 F0 AR m cR f t⟩ : Ent) :: M = X) := ⟨_, Lib.hid rfl⟩
            have S2 : Hid (St w0 w1 [] ([⟨g, 39, cur⟩] ++ (enT T ++ MX))) := Lib.hid (by
              rw [← HMX.out]
              have hp := (List.perm_middle (a := (⟨ob, 55, stepC 4 c T0 F0 AR m cR f t⟩ : Ent)) (l₁ := [⟨g, 39, cur⟩] ++ enT T) (l₂ := M)).symm
              have h1 : St w0 w1 [] ((⟨ob, 55, stepC 4 c T0 F0 AR m cR f t⟩ : Ent) :: (([⟨g, 39, cur⟩] ++ enT T) ++ M)) := by simpa only [List.append_assoc, List.cons_append, List.nil_append] using S1.out
              have h2 := h1.perm hp
              rw [List.append_assoc] at h2
              exact h2)
            have HK : Hid (∀ (w' : World) (N' : List Ent), St w0 w' [] N' → (∀ e ∈ [⟨g, 39, cur⟩] ++ MX, e ∈ N') → w'.cell? ⟨g, to, none⟩ = some (.slice (some ⟨a, 0, none⟩) nt DT.length) ∧ w'.cell? ⟨g, fr, none⟩ = some (.slice (some ⟨b, 0, none⟩) nf DF.length) ∧ w'.cell? ⟨ob, 0, none⟩ = some (.int .i64 4) ∧ w'.cell? ⟨ob, 1, none⟩ = some (.int .u8 (c : Int)) ∧ w'.cell? ⟨ob, 4, none⟩ = some (.slice AR m cR) ∧ w'.cell? ⟨ob, 5, none⟩ = some (.int .i64 f) ∧ w'.cell? ⟨ob, 6, none⟩ = some (.int .i64 t)) := Lib.hid (fun w' N' hs hm => by
              have hG : ∀ e ∈ ([⟨g, 39, cur⟩] : List Ent), e ∈ N' := fun e he => hm e (List.mem_append_left _ he)
              have hS : (⟨ob, 55, stepC 4 c T0 F0 AR m cR f t⟩ : Ent) ∈ N' := hm _ (List.mem_append_right _ (by rw [← HMX.out]; exact mem0))
              have x1 := HK1.out w' N' hs hG; have x2 := HK2.out w' N' hs hG
              rw [Nat.zero_add] at x1 x2
              exact ⟨x1, x2, (hs.blk hS).cell (i := 0) rfl, (hs.blk hS).cell (i := 1) rfl, (hs.blk hS).cell (i := 4) rfl, (hs.blk hS).cell (i := 5) rfl, (hs.blk hS).cell (i := 6) rfl⟩)
            have HFIN : Hid (∀ (w' : World) (G' : List Ent) (T' : TT), St w0 w' [] (G' ++ (enT T' ++ MX)) → St w0 w' [] (G' ++ (enT T' ++ M))) := Lib.hid (fun w' G' T' hs => by
              rw [← HMX.out] at hs
              exact hs.drop ((List.Sublist.refl _).append ((List.Sublist.refl _).append (List.sublist_cons_self _ _))))
            clear S1 HK1 HK2 HMX
            refine (others_st (k := fr) (ds := sdT T) (by rw [sdT_length, LT.out]) hn24 HM.out (S2.out.ext RR.out) BR.out (CT.out.rdV S2.out (fun e he => by simp at he; simp [he]))).mono ?_
            rintro e w3 ⟨R1, d1, R2, d2, G1, G2, rfl, hg1, hg2, hz1, hz2, hh⟩
            have h3 := S2.out.call hh; clear hh S2
            try simp only [List.nil_append, List.cons_append, List.append_eq, Int.toNat_natCast] at h3
            have HG1 := Lib.hid hg1; have HG2 := Lib.hid hg2; clear hg1 hg2 hz1 hz2
            have S3 := Lib.hid h3; clear h3
            have RK : Hid (CopyT R1 ((sdT T).eraseIdx fr).length d1 (T.eraseIdx fr) G1) := Lib.hid ⟨by rw [sdT_erase, sdT_length], by rw [← sdT_erase]; exact HG1.out, fun x hx => CT.out.2.2 x (List.mem_of_mem_eraseIdx hx)⟩
            have RL : Hid (∀ (w' : World) (N' : List Ent), St w0 w' [] N' → (∀ e ∈ G1, e ∈ N') → (∀ e ∈ enT T, e ∈ N') → RdL w' [] R1 (L.eraseIdx fr)) := Lib.hid (fun w' N' hs h1 h2 => by
              have := RK.out.rd hs h1 (fun e he => by
                obtain ⟨x, hx, rfl⟩ := List.mem_map.1 he
                exact h2 _ (List.mem_map.2 ⟨x, List.mem_of_mem_eraseIdx hx, rfl⟩))
              rw [liT_erase, HLL.out] at this; exact this)
            have HLE : Hid ((L.eraseIdx fr).length = ((sdT T).eraseIdx fr).length) := Lib.hid (by rw [sdT_erase, sdT_length, ← liT_length, liT_erase, HLL.out])
            have HLN : Hid (((sdT T).eraseIdx fr).length + 1 = n) := Lib.hid (by rw [List.length_eraseIdx, sdT_length, LT.out, if_pos hfr]; omega)
            clear HG1
            generalize ((sdT T).eraseIdx fr).length = n9 at *
            go_wp2_with fail
            have S4 := Lib.hid S3.out.drew; clear S3
            go_region_held3 (fun w' => w'.cell? ⟨g, to, none⟩ = some (.slice (some ⟨a, 0, none⟩) nt DT.length) ∧ w'.cell? ⟨g, fr, none⟩ = some (.slice (some ⟨b, 0, none⟩) nf DF.length) ∧ w'.cell? ⟨ob, 0, none⟩ = some (.int .i64 4) ∧ w'.cell? ⟨ob, 1, none⟩ = some (.int .u8 (c : Int)) ∧ w'.cell? ⟨ob, 4, none⟩ = some (.slice AR m cR) ∧ w'.cell? ⟨ob, 5, none⟩ = some (.int .i64 f) ∧ w'.cell? ⟨ob, 6, none⟩ = some (.int .i64 t)) (first | exact HK.out _ _ S4.out (by intro e he; simp at he; rcases he with he | he <;> simp [he]) | exact HK.out _ _ S5.out (by intro e he; simp at he; rcases he with he | he <;> simp [he]) | exact HK.out _ _ S3.out (by intro e he; simp at he; rcases he with he | he <;> simp [he]) | go_keep) (first
              | (go_at_call 39; (with_reducible refine (dspread_st (f := f) (t := t) (c1 := d2) (c2 := DF.length) (c3 := d1) (col := rowX row n fr) (diff := L.getD fr []) (dsts := L.eraseIdx fr) rfl HNF.out HLE.out uf (fit_erase HF.out fr) (rowX_b8 BR.out n fr) (H8.out.get fr) (b8_erase H8.out fr) (HG2.out.read S4.out (fun e he => by simp [he])) (RDT.out _ _ S4.out (fun e he => by simp [he])).2 (RL.out _ _ S4.out (fun e he => by simp [he]) (fun e he => by simp [he]))).mono ?_); rintro e w5 ⟨A3, c3, T2, G3, rfl, hct, hli, hh⟩; have HCT2 := Lib.hid hct; have HLI2 := Lib.hid hli; clear hct hli; have h5 := S4.out.call hh; clear hh; (try simp only [World.size_alloc, List.nil_append, List.cons_append, List.append_eq] at h5); have S5 := Lib.hid h5; clear h5 S4))
            obtain ⟨Z, HZ⟩ : ∃ Z, Hid ((G3 ++ enT T2) ++ (G1 ++ G2) = Z) := ⟨_, Lib.hid rfl⟩
            have S6 : Hid (St w0 w5 [] (Z ++ ⟨g, 39, cur⟩ :: (enT T ++ MX))) := Lib.hid (by rw [← HZ.out]; simpa only [List.append_assoc] using S5.out)
            have HZ3 : Hid (∀ e ∈ G3, e ∈ Z) := Lib.hid (fun e he => by rw [← HZ.out]; simp [he])
            clear S5
            have LT2 : Hid (T2.length + 1 = n) := Lib.hid (by rw [HCT2.out.1, HLN.out])
            obtain ⟨TF, HTF⟩ : ∃ TF, Hid (T2.insertIdx fr (b, DF, nf) = TF) := ⟨_, Lib.hid rfl⟩
            have HLT2 : Hid (fr ≤ T2.length) := Lib.hid (by have := LT2.out; omega)
            have LTF : Hid (TF.length = n) := Lib.hid (by rw [← HTF.out, (ins_perm _ _ _ HLT2.out).length_eq, List.length_cons, LT2.out])
            have HGF : Hid (∀ j, TF[j]? = if j < fr then T2[j]? else if j = fr then some (b, DF, nf) else T2[j - 1]?) := Lib.hid (fun j => by rw [← HTF.out]; exact ins_get HLT2.out)
            have HTf := Lib.hid hTf
            have LT2' : Hid (T2.length = n9) := Lib.hid HCT2.out.1
            clear hTf hTt RK RL HG2 HK RDT GT1 GT2 GF1 HNT
            go_wp2_with fail
            go_loopw [16, 127] (fun vn vi wq => ∃ (i j : Nat) (Ti : TT) (ci : Array Value), i ≤ n ∧ vi = .int .i64 i ∧ vn = .int .i64 j ∧ (i ≤ fr → j = i) ∧ (fr < i → j + 1 = i) ∧ Ti = TF.take i ++ T.drop i ∧ CopyT (some ⟨g, 0, none⟩) n cW Ti [⟨g, 39, ci⟩] ∧ St w0 wq [] (Z ++ ⟨g, 39, ci⟩ :: (enT T ++ MX))) (fun _ vi _ => n - (intOf vi).toNat)
            case atStart => exact ⟨0, 0, T, cur, by omega, rfl, rfl, fun _ => rfl, fun h => by omega, by simp, CT.out, S6.out⟩
            case round =>
              clear S6 CT
              obtain ⟨i, j, Ti, ci, hi, rfl, rfl, hj1, hj2, hTi, hct, hs⟩ := hrel
              have S7 := Lib.hid hs; have CTi := Lib.hid hct; have HTi := Lib.hid hTi; clear hs hct hTi
              by_cases hlt : i < n
              · have i1 : (i : Int) < (n : Int) := by omega
                by_cases hif : i = fr
                · subst hif
                  have HSK : Hid (TF.take (i + 1) ++ T.drop (i + 1) = Ti) := Lib.hid (by
                    rw [HTi.out]
                    exact mix_skip (by rw [LTF.out]; exact hlt) (by rw [LT.out]; exact hlt) (by rw [HGF.out, if_neg (by omega), if_pos rfl, HTf.out]))
                  go_wp2_with fail
                  refine ⟨⟨i + 1, j, Ti, ci, by omega, by simp, rfl, fun h => by omega, fun _ => by have := hj1 (Nat.le_refl _); omega, HSK.out.symm, CTi.out, S7.out⟩, by simp [intOf]; omega⟩
                · have q1 : ((i : Int) == (fr : Int)) = false := by rw [beq_eq_false_iff_ne]; omega
                  have q2 : ((i : Int) != (fr : Int)) = true := by rw [bne_iff_ne]; omega
                  have q3 : (i == fr) = false := by simpa using hif
                  have q4 : (i != fr) = true := by rw [bne_iff_ne]; exact hif
                  have hjn : j < n9 := by
                    have := HLN.out
                    rcases Nat.lt_or_ge fr i with h | h
                    · have := hj2 h; omega
                    · have := hj1 h; omega
                  obtain ⟨b2, D2, m2, hT2⟩ : ∃ a D x, T2[j]? = some (a, D, x) := by
                    have : j < T2.length := by rw [LT2'.out]; exact hjn
                    exact ⟨T2[j].1, T2[j].2.1, T2[j].2.2, by simp [this]⟩
                  have HGi : Hid (TF[i]? = some (b2, D2, m2)) := Lib.hid (by
                    rw [HGF.out]
                    rcases Nat.lt_or_ge i fr with h | h
                    · rw [if_pos h, ← hT2, hj1 (by omega)]
                    · rw [if_neg (by omega), if_neg hif, ← hT2, show i - 1 = j by have := hj2 (by omega); omega])
                  obtain ⟨h3, o3, e3, hc3⟩ := HCT2.out.hdr hT2 S7.out (fun e he => List.mem_append_left _ (HZ3.out e he))
                  have x3 := hc3 _ _ S7.out (fun e he => List.mem_append_left _ (HZ3.out e he))
                  obtain ⟨bo, Do, mo, hTo⟩ : ∃ a D x, Ti[i]? = some (a, D, x) := by
                    have : i < Ti.length := by rw [CTi.out.1]; exact hlt
                    exact ⟨Ti[i].1, Ti[i].2.1, Ti[i].2.2, by simp [this]⟩
                  obtain ⟨h4, o4, e4, hc4⟩ := CTi.out.hdr hTo S7.out (fun e he => List.mem_append_right _ (by simp at he; simp [he]))
                  injection e4 with e4; injection e4 with e4a e4b _
                  subst e4a e4b e3
                  have y4 := hc4 _ _ S7.out (fun e he => List.mem_append_right _ (by simp at he; simp [he]))
                  have f4 := (S7.out.blk (by simp : (⟨g, 39, ci⟩ : Ent) ∈ _)).free (i := i)
                  rw [Nat.zero_add] at y4
                  have HOK := Lib.hid (HCT2.out.2.2 _ (List.mem_of_getElem? hT2))
                  have HST : Hid (TF.take (i + 1) ++ T.drop (i + 1) = Ti.set i (b2, D2, m2)) := Lib.hid (by
                    rw [HTi.out]
                    exact mix_step (by rw [LTF.out]; exact hlt) (by rw [LT.out]; exact hlt) HGi.out)
                  have j1 : (j : Int) < (n9 : Int) := by omega
                  have HJ : Hid ((i + 1 ≤ fr → j + 1 = i + 1) ∧ (fr < i + 1 → j + 1 + 1 = i + 1)) := Lib.hid ⟨fun h => by have := hj1 (by omega); omega, fun h => by have := hj2 (by omega); omega⟩
                  have jb : j ≤ 140737488351232 := by have := HLN.out; omega
                  clear hc3 hc4 hT2 hTo hif hj1 hj2
                  go_wp2_with fail
                  have S8 := Lib.hid (St.setN (N1 := Z) (.slice (some ⟨b2, 0, none⟩) m2 D2.length) i S7.out)
                  clear x3 y4 f4
                  refine ⟨⟨i + 1, j + 1, Ti.set i (b2, D2, m2), _, by omega, by simp, by simp, HJ.out.1, HJ.out.2, HST.out.symm, CopyT.setT CTi.out hlt ⟨HOK.out.1, HOK.out.2.1, HOK.out.2.2⟩, S8.out⟩, by simp [intOf]; omega⟩
              · have ein : i = n := by omega
                have d0 : decide ((i : Int) < (n : Int)) = false := by simp; omega
                have d0' : decide (i < n) = false := by simp; omega
                have eTi : Ti = TF := by rw [HTi.out, ein, List.take_of_length_le (by rw [LTF.out]; exact Nat.le_refl _), List.drop_eq_nil_of_le (by rw [LT.out]; exact Nat.le_refl _), List.append_nil]
                have S9 : Hid (St w0 wr [] ([⟨g, 39, ci⟩] ++ (enT TF ++ MX))) := Lib.hid (by
                  rw [← HTF.out]
                  exact told_ins (G1 := G1) (G2 := G2) (G3 := G3) (T := T) (by rw [HZ.out]; exact S7.out) HTf.out HLT2.out)
                have HLF : Hid (liT TF = (sprD (rowX row n fr) (L.getD fr []) (L.eraseIdx fr) f t).insertIdx fr (L.getD fr [])) := Lib.hid (by
                  rw [← HTF.out]
                  unfold liT
                  rw [map_ins]
                  have e1 : T2.map (fun x => x.2.1.take x.2.2) = sprD (rowX row n fr) (L.getD fr []) (L.eraseIdx fr) f t := HLI2.out
                  have e2 : L.getD fr [] = DF.take nf := by
                    rw [← HLL.out]; unfold liT
                    rw [List.getD_eq_getElem?_getD, List.getElem?_map, HTf.out]; rfl
                  rw [e1, e2])
                have HCF : Hid (CopyT (some ⟨g, 0, none⟩) n cW TF [⟨g, 39, ci⟩]) := Lib.hid (by rw [← eTi]; exact CTi.out)
                clear eTi
                go_wp2_with fail
                go_ret
                exact ⟨TF, _, by rw [HE.out]; rfl, HCF.out, by rw [HLF.out, HL.out], HFIN.out _ _ _ S9.out⟩
          · have q4 : (k == 4) = false := by simpa using k4
            have HE : Hid (stepE k to fr row f t L = 0) := Lib.hid (by unfold stepE; rw [if_neg (by omega), if_neg k3, if_neg k4])
            have HL : Hid (stepL k c to fr row f t L = L) := Lib.hid (by unfold stepL; rw [if_neg k0, if_neg k1, if_neg k2, if_neg k3, if_neg k4])
            go_wp2_with ((with_reducible refine at_slot (N := 4) rfl ?_); refine box_law rfl _ _ (stepC k c T0 F0 AR m cR f t) rfl rfl S0.out ?_; intro ob w1 h1; have z0 := (h1.blk mem0).cell (i := 0) rfl; have z4 := (h1.blk mem0).cell (i := 4) rfl; (try simp only [World.size_alloc, List.nil_append, List.cons_append, List.append_eq] at h1); have S1 := Lib.hid h1; clear h1 S0)
            (try clear z0 z4)
            obtain ⟨MX, HMX⟩ : ∃ X, Hid ((⟨ob, 55, stepC k c T0 F0 AR m cR f t⟩ : Ent) :: M = X) := ⟨_, Lib.hid rfl⟩
            have S2 : Hid (St w0 w1 [] ([⟨g, 39, cur⟩] ++ (enT T ++ MX))) := Lib.hid (by
              rw [← HMX.out]
              have hp := (List.perm_middle (a := (⟨ob, 55, stepC k c T0 F0 AR m cR f t⟩ : Ent)) (l₁ := [⟨g, 39, cur⟩] ++ enT T) (l₂ := M)).symm
              have h1 : St w0 w1 [] ((⟨ob, 55, stepC k c T0 F0 AR m cR f t⟩ : Ent) :: (([⟨g, 39, cur⟩] ++ enT T) ++ M)) := by simpa only [List.append_assoc, List.cons_append, List.nil_append] using S1.out
              have h2 := h1.perm hp
              rw [List.append_assoc] at h2
              exact h2)
            have HK : Hid (∀ (w' : World) (N' : List Ent), St w0 w' [] N' → (∀ e ∈ [⟨g, 39, cur⟩] ++ MX, e ∈ N') → w'.cell? ⟨g, to, none⟩ = some (.slice (some ⟨a, 0, none⟩) nt DT.length) ∧ w'.cell? ⟨g, fr, none⟩ = some (.slice (some ⟨b, 0, none⟩) nf DF.length) ∧ w'.cell? ⟨ob, 0, none⟩ = some (.int .i64 k) ∧ w'.cell? ⟨ob, 1, none⟩ = some (.int .u8 (c : Int)) ∧ w'.cell? ⟨ob, 4, none⟩ = some (.slice AR m cR) ∧ w'.cell? ⟨ob, 5, none⟩ = some (.int .i64 f) ∧ w'.cell? ⟨ob, 6, none⟩ = some (.int .i64 t)) := Lib.hid (fun w' N' hs hm => by
              have hG : ∀ e ∈ ([⟨g, 39, cur⟩] : List Ent), e ∈ N' := fun e he => hm e (List.mem_append_left _ he)
              have hS : (⟨ob, 55, stepC k c T0 F0 AR m cR f t⟩ : Ent) ∈ N' := hm _ (List.mem_append_right _ (by rw [← HMX.out]; exact mem0))
              have x1 := HK1.out w' N' hs hG; have x2 := HK2.out w' N' hs hG
              rw [Nat.zero_add] at x1 x2
              exact ⟨x1, x2, (hs.blk hS).cell (i := 0) rfl, (hs.blk hS).cell (i := 1) rfl, (hs.blk hS).cell (i := 4) rfl, (hs.blk hS).cell (i := 5) rfl, (hs.blk hS).cell (i := 6) rfl⟩)
            have HFIN : Hid (∀ (w' : World) (G' : List Ent) (T' : TT), St w0 w' [] (G' ++ (enT T' ++ MX)) → St w0 w' [] (G' ++ (enT T' ++ M))) := Lib.hid (fun w' G' T' hs => by
              rw [← HMX.out] at hs
              exact hs.drop ((List.Sublist.refl _).append ((List.Sublist.refl _).append (List.sublist_cons_self _ _))))
            clear S1 HK1 HK2 HMX
            go_ret
            first
              | exact ⟨T, _, by rw [HE.out]; rfl, CT.out, by rw [HLL.out, HL.out], HFIN.out _ _ _ S2.out⟩
              | exact ⟨by rw [HE.out]; rfl, T, _, CT.out, by rw [HLL.out, HL.out], HFIN.out _ _ _ S2.out⟩

end Go.Proofs.Ytdbfkjhdnbmpeaa.Sk

namespace Go.Proofs.Ytdbfkjhdnbmpeaa.Sk
set_option linter.unusedSimpArgs false
set_option linter.unusedVariables false
open Go Go.RowKit Go.Proofs.Ytdbfkjhdnbmpeaa Go.Proofs.Ytdbfkjhdnbmpeaa.Mm Go.Proofs.Ytdbfkjhdnbmpeaa.Gf Go.Proofs.Ytdbfkjhdnbmpeaa.Wr Go.Proofs.Ytdbfkjhdnbmpeaa.Nb Go.Proofs.Ytdbfkjhdnbmpeaa.St

theorem stepL_len {k : Int} {c to fr : Nat} {row : List Nat} {f t : Int} {L : List (List Nat)} (h2 : fr < L.length) : (stepL k c to fr row f t L).map (·.length) = L.map (·.length) := by
  unfold stepL
  split
  · exact map_len_set (mulD_length _ _ _)
  · split
    · exact map_len_set (addD_length _ _ _)
    · split
      · exact map_len_set (xorD_length _ _)
      · split
        · exact map_len_set (dotD_length _ _ _)
        · split
          · rw [map_ins, sprD_len]
            conv => rhs; rw [self_ins h2]
            rw [map_ins]
          · rfl
theorem stepL_b8 {k : Int} {c to fr : Nat} {row : List Nat} {f t : Int} {L : List (List Nat)} (h2 : fr < L.length) (hc : c < 256) (hr : B8 row) (h8 : B8L L) : B8L (stepL k c to fr row f t L) := by
  unfold stepL
  split
  · exact h8.set _ (mulD_b8 hc (h8.get _))
  · split
    · exact h8.set _ (addD_b8 hc (h8.get _) (h8.get _))
    · split
      · exact h8.set _ (xorD_b8 (h8.get _) (h8.get _))
      · split
        · exact h8.set _ (dotD_b8 (h8.get _) (rowX_b8 hr _ _))
        · split
          · intro l hl
            have hle : fr ≤ (sprD (rowX row L.length fr) (L.getD fr []) (L.eraseIdx fr) f t).length := by rw [sprD_length, List.length_eraseIdx, if_pos h2]; omega
            rcases List.mem_cons.1 ((ins_perm _ _ _ hle).mem_iff.1 hl) with rfl | hl
            · exact h8.get fr
            · exact sprD_b8 (rowX_b8 hr _ _) (b8_erase h8 fr) l hl
          · exact h8
theorem copyT_of {A : Option Addr} {n c : Nat} {bs : List Nat} {L : List (List Nat)} {G : List Ent} (h : CopyL A n c bs L G) (hf : Fit L) (h8 : B8L L) : ∃ T, CopyT A n c T G ∧ enT T = ents bs L ∧ liT T = L := by
  refine ⟨List.zipWith (fun b (l : List Nat) => (b, l, l.length)) bs L, ⟨?_, ?_, ?_⟩, ?_, ?_⟩
  · rw [List.length_zipWith, h.1, Nat.min_self, ← h.2.1]
  · have e : sdT (List.zipWith (fun b (l : List Nat) => (b, l, l.length)) bs L) = sds bs L := by unfold sdT sds; rw [List.map_zipWith]
    rw [e]; exact h.2.2.1
  · intro x hx
    rw [List.zipWith_eq_zipWith_take_min, List.mem_iff_getElem] at hx
    obtain ⟨i, hi, rfl⟩ := hx
    rw [List.getElem_zipWith]
    dsimp only
    have hm : (L.take (min bs.length L.length))[i]'(by simp at hi ⊢; omega) ∈ L := List.mem_of_mem_take (List.getElem_mem _)
    exact ⟨Nat.le_refl _, by have := hf.2 _ hm; unfold maxLen; omega, h8 _ hm⟩
  · unfold enT ents; rw [List.map_zipWith]
  · unfold liT
    rw [List.map_zipWith]
    have key : ∀ (bs : List Nat) (L : List (List Nat)), bs.length = L.length → List.zipWith (fun _ (l : List Nat) => l.take l.length) bs L = L := by
      intro bs
      induction bs with
      | nil => intro L h; cases L with
        | nil => rfl
        | cons l L => simp at h
      | cons b bs ih => intro L h; cases L with
        | nil => simp at h
        | cons l L => rw [List.zipWith_cons_cons, ih L (by simpa using h), List.take_length]
    exact key bs L h.1
theorem mod_to {n : Nat} (hn : 0 < n) (T : Int) : ∃ (x : Int) (k : Nat), Int.tmod T n = x ∧ -(n : Int) < x ∧ x < n ∧ Int.tmod (x + n) n = (k : Int) ∧ k < n := by
  have h1 : Int.tmod T n < n := Int.tmod_lt_of_pos T (by omega)
  have h2 : -(n : Int) < Int.tmod T n := by
    rcases Int.le_total 0 T with h | h
    · have := Int.tmod_nonneg (n : Int) h; omega
    · have e : Int.tmod T n = - Int.tmod (-T) n := by rw [Int.neg_tmod]; omega
      have := Int.tmod_lt_of_pos (-T) (show (0 : Int) < n by omega)
      omega
  have h3 : 0 ≤ Int.tmod (Int.tmod T n + n) n := Int.tmod_nonneg _ (by omega)
  have h4 : Int.tmod (Int.tmod T n + n) n < n := Int.tmod_lt_of_pos _ (by omega)
  exact ⟨_, (Int.tmod (Int.tmod T n + n) n).toNat, rfl, h2, h1, by omega, by omega⟩
theorem opens_steps : Kk.Opens Try.prog 53 (Kk.kSlice kStep 72) :=
  Kk.opens_slice Try.underlying53 (by kernel_rfl) (by decide) (by kernel_rfl) opens_step
theorem open_step {B : Nat} {w : World} {cs : List Value} {x : TStep} (h : kStep.ok B w cs x) : ∃ (k : Int) (c : Nat) (T F : Int) (row : List Nat) (f t : Int) (A : Option Addr) (cR : Nat), cs = (stepC k c T F A row.length cR f t).toList ∧ c < 256 ∧ row.length ≤ 140737488351232 ∧ Rd w A row ∧ B8 row := by
  obtain ⟨k, c, T, F, row, ⟨f, t, _⟩, _⟩ := x
  obtain ⟨d1, _, rfl, _, ⟨rfl, _⟩, d2, _, rfl, _, ⟨rfl, hc⟩, d3, _, rfl, _, ⟨rfl, _⟩, d4, _, rfl, _, ⟨rfl, _⟩, d5, _, rfl, _, h5, d6, _, rfl, _, ⟨e1, _, rfl, _, ⟨rfl, _⟩, e2, _, rfl, _, ⟨rfl, _⟩, h8⟩, h9⟩ := h
  have h8' : _ = [] := h8
  have h9' : _ = [] := h9
  subst h8' h9'
  obtain ⟨A, cR, rfl, g1, _, g2, g3⟩ := open_bs9 h5
  exact ⟨k, c, T, F, row, f, t, A, cR, rfl, hc, g1, g2, g3⟩

set_option maxRecDepth 100000 in
set_option maxHeartbeats 8000000 in
theorem lives_st {A AS : Option Addr} {n cA ns cS : Nat} {L0 : List (List Nat)} {xs : List TStep} {w : World} (l0 : L0.length = n) (r0 : RdL w [] A L0) (f0 : Fit L0) (b0 : B8L L0) (hn : xs.length = ns) (hl : ns ≤ 140737488351232) (hx : Kk.Row kStep w.heap.size w AS xs) :
    Calls Try.prog 6 #[.slice A n cA, .slice AS ns cS] w fun e w' => e = .returned (.bool true) ∧ St w w' [] [] := by
  have HX := Lib.hid hx; have HN := Lib.hid hn; have L1 := Lib.hid l0; have R1 := Lib.hid r0; have F1 := Lib.hid f0; have B1 := Lib.hid b0
  have un : n * 24 ≤ 140737488351232 := by rw [← l0]; exact f0.1
  clear hx hn l0 r0 f0 b0
  have S0 := Lib.hid (St.start w)
  go_enter Try.func6, Try.ntmps6
  go_wp2_with fail
  refine (sets3_st _).mono ?_
  rintro e w1 ⟨lb, cl, K1, rfl, hq3, hh⟩
  have h1 := S0.out.call hh; clear hh S0
  try simp only [List.nil_append, List.cons_append, List.append_eq, Int.toNat_natCast] at h1
  have H31 := Lib.hid hq3; clear hq3
  have S1 := Lib.hid h1; clear h1
  go_wp2_with fail
  refine (fixed_st _).mono ?_
  rintro e w2 ⟨rfl, hh⟩
  have h2 := S1.out.call hh; clear hh S1
  try simp only [List.nil_append, List.cons_append, List.append_eq, Int.toNat_natCast] at h2
  have S2 := Lib.hid h2; clear h2
  have S3 : Hid (St w w2 [] K1) := Lib.hid (by simpa only [List.append_nil] using S2.out)
  clear S2
  by_cases hn0 : n = 0
  · subst hn0
    go_wp2_with fail
    go_ret
    exact ⟨rfl, S3.out.nil⟩
  · have hpos : 0 < n := by omega
    have q0 : ((n : Int) == 0) = false := by rw [beq_eq_false_iff_ne]; omega
    have q0' : (n == 0) = false := by simpa using hn0
    go_wp2_with fail
    refine (copies_st L1.out F1.out (S3.out.extL R1.out)).mono ?_
    rintro e w4 ⟨AH, cH, bsH, GH, rfl, hc, hh⟩
    have h4 := S3.out.call hh; clear hh S3
    try simp only [List.nil_append, List.cons_append, List.append_eq, Int.toNat_natCast] at h4
    have CH := Lib.hid hc; clear hc
    have S4 := Lib.hid h4; clear h4
    go_wp2_with fail
    refine (copies_st L1.out F1.out (S4.out.extL R1.out)).mono ?_
    rintro e w5 ⟨AW, cW, bsW, GW, rfl, hc, hh⟩
    have h5 := S4.out.call hh; clear hh S4
    try simp only [List.nil_append, List.cons_append, List.append_eq, Int.toNat_natCast] at h5
    have CW := Lib.hid hc; clear hc
    have S5 := Lib.hid h5; clear h5
    obtain ⟨T1, ht1, ht2, ht3⟩ := copyT_of CW.out F1.out B1.out
    have CT1 := Lib.hid ht1; have LT1 := Lib.hid ht3
    have S6 : Hid (St w w5 [] (GH ++ (ents bsH L0 ++ (GW ++ (enT T1 ++ K1))))) := Lib.hid (by
      have := S5.out
      rw [← ht2] at this
      exact this.perm (perm_of (fun a => by simp only [cnt_append, cnt_cons, cnt_nil]; omega)))
    clear ht1 ht2 ht3 S5 CW
    go_wp2_with fail
    clear q0 q0'
    go_loopw [31] (fun vi wq => ∃ (i : Nat) (L : List (List Nat)) (T : TT) (G : List Ent), i ≤ ns ∧ vi = .int .i64 i ∧ L.map (·.length) = L0.map (·.length) ∧ B8L L ∧ CopyT AW n cW T G ∧ liT T = L ∧ St w wq [] (GH ++ (ents bsH L ++ (G ++ (enT T ++ K1))))) (fun vi _ => ns - (intOf vi).toNat)
    case atStart => exact ⟨0, L0, T1, GW, by omega, rfl, rfl, B1.out, CT1.out, LT1.out, S6.out⟩
    case round =>
      clear S6 CT1 LT1
      obtain ⟨i, L, T, G, hi, rfl, hLl, hL8, hct, hli, hs⟩ := hrel
      have S7 := Lib.hid hs; have HLL := Lib.hid hLl; have HL8 := Lib.hid hL8; have CT := Lib.hid hct; have HLI := Lib.hid hli; clear hs hLl hL8 hct hli
      by_cases hlt : i < ns
      · obtain ⟨bk, off, eA, hbk, hat⟩ := HX.out (by rw [HN.out]; omega)
        obtain ⟨cs, hok, hcell⟩ := hat i (by rw [HN.out]; exact hlt)
        obtain ⟨k, c, T0, F0, row, f, t, AR, cR, ecs, hc, hm, hrr, hr8⟩ := open_step hok
        subst ecs eA
        clear hok hat
        have RR := Lib.hid hrr; have BR := Lib.hid hr8; clear hrr hr8
        obtain ⟨m, HM⟩ : ∃ m, Hid (row.length = m) := ⟨_, Lib.hid rfl⟩
        rw [HM.out] at hcell hm
        have mm : ∀ j v, (stepC k c T0 F0 AR m cR f t).toList[j]? = some v → w.cell? ⟨bk, off + (i * 7 + j), none⟩ = some v := hcell
        have m0 := mm 0 _ rfl; have m1 := mm 1 _ rfl; have m2 := mm 2 _ rfl; have m3 := mm 3 _ rfl; have m4 := mm 4 _ rfl; have m5 := mm 5 _ rfl; have m6 := mm 6 _ rfl
        clear mm hcell
        rw [← S7.out.rules.1 bk _ hbk] at m0 m1 m2 m3 m4 m5 m6
        rw [← Nat.add_assoc] at m1 m2 m3 m4 m5 m6
        rw [Nat.add_zero] at m0
        have i0 : (0 : Int) ≤ (i : Int) := by omega
        have i1 : (i : Int) < (ns : Int) := by omega
        obtain ⟨jm, HJ⟩ : ∃ j : Nat, Hid (i % 3 = j) := ⟨_, Lib.hid rfl⟩
        have hj3 : jm < 3 := by rw [← HJ.out]; exact Nat.mod_lt _ (by decide)
        obtain ⟨p, S, hSE, hSM, hcell⟩ := H31.out jm hj3
        have SE := Lib.hid hSE; have SM := Lib.hid hSM
        obtain ⟨x1, to, e1, e2, e3, e4, hto⟩ := mod_to hpos T0
        obtain ⟨x2, fr, g1, g2, g3, g4, hfr⟩ := mod_to hpos F0
        have n0 : ((n : Int) == 0) = false := by rw [beq_eq_false_iff_ne]; omega
        have nz : ¬ (n : Int) = 0 := by omega
        have h5 := S7.out.alloc 55 (stepC k c T0 F0 AR m cR f t)
        have z2 := (h5.blk mem0).cell (i := 2) rfl
        have z3 := (h5.blk mem0).cell (i := 3) rfl
        go_wp2_with fail
        clear m0 m1 m2 m3 m4 m5 m6 hSE hSM z2 z3
        have S8 := Lib.hid h5; clear h5
        generalize wr.heap.size = sb at *
        generalize wr.alloc (.cells (stepC k c T0 F0 AR m cR f t) 55 (0, 0)) = w8 at *
        have HC : Hid (∀ (w' : World) (N' : List Ent), St w w' [] N' → (∀ e ∈ (⟨sb, 55, stepC k c T0 F0 AR m cR f t⟩ : Ent) :: K1, e ∈ N') → w'.cell? ⟨lb, jm, none⟩ = some (.pointer (some ⟨p, 0, none⟩)) ∧ w'.cell? ⟨sb, 0, none⟩ = some (.int .i64 k) ∧ w'.cell? ⟨sb, 1, none⟩ = some (.int .u8 (c : Int)) ∧ w'.cell? ⟨sb, 2, none⟩ = some (.int .i64 T0) ∧ w'.cell? ⟨sb, 3, none⟩ = some (.int .i64 F0) ∧ w'.cell? ⟨sb, 4, none⟩ = some (.slice AR m cR) ∧ w'.cell? ⟨sb, 5, none⟩ = some (.int .i64 f) ∧ w'.cell? ⟨sb, 6, none⟩ = some (.int .i64 t)) := Lib.hid (fun w' N' hs hm => ⟨hcell _ _ _ hs (fun e he => hm e (List.mem_cons_of_mem _ he)), (hs.blk (hm _ mem0)).cell (i := 0) rfl, (hs.blk (hm _ mem0)).cell (i := 1) rfl, (hs.blk (hm _ mem0)).cell (i := 2) rfl, (hs.blk (hm _ mem0)).cell (i := 3) rfl, (hs.blk (hm _ mem0)).cell (i := 4) rfl, (hs.blk (hm _ mem0)).cell (i := 5) rfl, (hs.blk (hm _ mem0)).cell (i := 6) rfl⟩)
        have S9 : Hid (St w w8 [] (GH ++ (ents bsH L ++ ((⟨sb, 55, stepC k c T0 F0 AR m cR f t⟩ : Ent) :: (G ++ (enT T ++ K1)))))) := Lib.hid (S8.out.perm (perm_of (fun a => by simp only [cnt_append, cnt_cons, cnt_nil]; omega)))
        have SMX : Hid (∀ e ∈ S, e ∈ (⟨sb, 55, stepC k c T0 F0 AR m cR f t⟩ : Ent) :: (G ++ (enT T ++ K1))) := Lib.hid (fun e he => by simp [SM.out e he])
        clear S8 hcell SM
        have CHL := Lib.hid (CopyL.len CH.out HLL.out)
        have HF := Lib.hid (F1.out.len HLL.out)
        have HFL : Hid (fr < L.length) := Lib.hid (by rw [len_len HLL.out, L1.out]; exact hfr)
        have j3 : Int.tmod (i : Int) 3 = (jm : Int) := by rw [Int.tmod_eq_emod_of_nonneg i0, ← HJ.out]; omega
        have j4 : (i : Int) % 3 = (jm : Int) := by rw [← HJ.out]; omega
        have r1 : (jm : Int) < 3 := by omega
        have r0 : (0 : Int) ≤ (jm : Int) := by omega
        have S10 := Lib.hid S9.out.drew; clear S9
        go_region_held3 (fun w' => w'.cell? ⟨lb, jm, none⟩ = some (.pointer (some ⟨p, 0, none⟩)) ∧ w'.cell? ⟨sb, 0, none⟩ = some (.int .i64 k) ∧ w'.cell? ⟨sb, 1, none⟩ = some (.int .u8 (c : Int)) ∧ w'.cell? ⟨sb, 2, none⟩ = some (.int .i64 T0) ∧ w'.cell? ⟨sb, 3, none⟩ = some (.int .i64 F0) ∧ w'.cell? ⟨sb, 4, none⟩ = some (.slice AR m cR) ∧ w'.cell? ⟨sb, 5, none⟩ = some (.int .i64 f) ∧ w'.cell? ⟨sb, 6, none⟩ = some (.int .i64 t)) (first | exact HC.out _ _ S10.out (by intro e he; simp at he; rcases he with he | he <;> simp [he]) | exact HC.out _ _ S11.out (by intro e he; simp at he; rcases he with he | he <;> simp [he]) | exact HC.out _ _ S12.out (by intro e he; simp at he; rcases he with he | he <;> simp [he]) | exact HC.out _ _ S13.out (by intro e he; simp at he; rcases he with he | he <;> simp [he]) | exact HC.out _ _ S14.out (by intro e he; simp at he; rcases he with he | he <;> simp [he]) | exact HC.out _ _ S15.out (by intro e he; simp at he; rcases he with he | he <;> simp [he]) | exact HC.out _ _ S16.out (by intro e he; simp at he; rcases he with he | he <;> simp [he]) | exact HC.out _ _ S17.out (by intro e he; simp at he; rcases he with he | he <;> simp [he]) | exact HC.out _ _ S18.out (by intro e he; simp at he; rcases he with he | he <;> simp [he]) | go_keep) (first
          | (go_at_call 23; (with_reducible refine (played_st SE.out S10.out SMX.out CHL.out hto hfr hc HM.out RR.out BR.out HF.out HL8.out).mono ?_); rintro e w11 ⟨rfl, hh⟩; have S11 := Lib.hid hh; clear hh S10))
        clear j3 j4 r1 r0 SMX
        have LL2 : Hid ((stepL k c to fr row f t L).map (·.length) = L0.map (·.length)) := Lib.hid ((stepL_len HFL.out).trans HLL.out)
        have L82 : Hid (B8L (stepL k c to fr row f t L)) := Lib.hid (stepL_b8 HFL.out hc BR.out HL8.out)
        generalize hL2 : stepL k c to fr row f t L = L2 at *
        have HL2 := Lib.hid hL2; clear hL2
        have S12 : Hid (St w w11 [] (G ++ (enT T ++ ((⟨sb, 55, stepC k c T0 F0 AR m cR f t⟩ : Ent) :: (GH ++ (ents bsH L2 ++ K1)))))) := Lib.hid (S11.out.perm (perm_of (fun a => by simp only [cnt_append, cnt_cons, cnt_nil]; omega)))
        clear S11
        obtain ⟨-, y0, y1, y2, y3, y4, y5, y6⟩ := HC.out _ _ S12.out (by intro e he; simp at he; rcases he with he | he <;> simp [he])
        go_wp2_with fail
        refine (told_st (k := k) (T0 := T0) (F0 := F0) (f := f) (t := t) (c := c) (cR := cR) S12.out CT.out HLI.out hto hfr hc HM.out hm RR.out BR.out HF.out HL8.out).mono ?_
        rintro e w13 ⟨T', G', rfl, hh⟩
        have S13 := Lib.hid hh; clear hh S12
        obtain ⟨hct2, hli2, hs2⟩ := S13.out
        rw [HL2.out] at hli2
        have CT2 := Lib.hid hct2; have HLI2 := Lib.hid hli2
        have S14 : Hid (St w w13 [] (GH ++ (ents bsH L2 ++ (G' ++ (enT T' ++ K1))))) := Lib.hid (by
          have h1 := hs2.drop ((List.Sublist.refl G').append ((List.Sublist.refl (enT T')).append (List.sublist_cons_self _ _)))
          exact h1.perm (perm_of (fun a => by simp only [cnt_append, cnt_cons, cnt_nil]; omega)))
        clear hct2 hli2 hs2 S13 y0 y1 y2 y3 y4 y5 y6 HC CT HLI
        have CH2 := Lib.hid (CopyL.len CH.out LL2.out)
        have LN2 : Hid (L2.length = n) := Lib.hid CH2.out.2.1.symm
        have RW : Hid (RdL w13 [] AW L2) := Lib.hid (by
          have := CT2.out.rd S14.out (fun e he => by simp [he]) (fun e he => by simp [he])
          rw [HLI2.out] at this; exact this)
        go_wp2_with fail
        refine (all_same LN2.out (F1.out.len LL2.out) L82.out (CH2.out.rd0 S14.out (fun e he => by simp [he]) (fun e he => by simp [he])) RW.out).mono ?_
        rintro e _ ⟨rfl, n15, rfl⟩
        have h15 := S14.out.drewN (n := n15); clear S14
        have S15 := Lib.hid h15; clear h15
        go_wp2_with fail
        refine ⟨⟨i + 1, L2, T', G', by omega, by simp, LL2.out, L82.out, CT2.out, HLI2.out, S15.out⟩, ?_⟩
        simp [intOf]; omega
      · have ein : i = ns := by omega
        have d0 : decide ((i : Int) < (ns : Int)) = false := by simp; omega
        have d0' : decide (i < ns) = false := by simp; omega
        go_wp2_with fail
        go_ret
        exact ⟨rfl, S7.out.nil⟩

theorem lives_walk (A : Option Addr) (n c : Nat) (L : List (List Nat)) (A2 : Option Addr) (n2 c2 : Nat) (xs : List TStep) (w : World) (h1 : (Kk.kSlice kBs 24).ok w.heap.size w [.slice A n c] L) (h2 : (Kk.kSlice kStep 72).ok w.heap.size w [.slice A2 n2 c2] xs) :
    Calls Try.prog 6 #[.slice A n c, .slice A2 n2 c2] w fun e w' => e = .returned (.bool true) ∧ Below w.heap.size w w' := by
  obtain ⟨g1, g2, g3, g4⟩ := open_lists9 h1
  obtain ⟨A', c', he, _, hm, hr, hrow⟩ := h2
  injection he with he _
  injection he with e1 e2 e3
  subst e1 e2 e3
  exact (lives_st g1 g2 g3 g4 rfl (by unfold reachBytes at hr; omega) hrow).mono fun _ _ ⟨h, hs⟩ => ⟨h, hs.below⟩

end Go.Proofs.Ytdbfkjhdnbmpeaa.Sk
