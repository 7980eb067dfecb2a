/- Layer 9: Agrees. -/
import Derived.Test.YtdbfkjhdnbmpeaaKf
namespace Go.Proofs.Ytdbfkjhdnbmpeaa.Sk
set_option linter.unusedSimpArgs false
set_option linter.unusedVariables false
open Go Go.RowKit Go.Proofs.Ytdbfkjhdnbmpeaa Go.Proofs.Ytdbfkjhdnbmpeaa.Mm Go.Proofs.Ytdbfkjhdnbmpeaa.Gf Go.Proofs.Ytdbfkjhdnbmpeaa.Wr Go.Proofs.Ytdbfkjhdnbmpeaa.Nb Go.Proofs.Ytdbfkjhdnbmpeaa.St

/-- Is each list, within the span, the sum? -/
def Agr (rows srcs L : List (List Nat)) (f k : Nat) : Prop := ∀ r, r < L.length → ((L.getD r []).drop f).take k = sumL (rows.getD r []) srcs f k
instance (rows srcs L : List (List Nat)) (f k : Nat) : Decidable (Agr rows srcs L f k) := by unfold Agr; infer_instance

set_option maxRecDepth 100000 in
theorem agrees_nil (v1 v2 v3 : Value) (f t : Int) (w : World) : Calls Try.prog 15 #[.pointer none, v1, v2, v3, .agg #[.int .i64 f, .int .i64 t]] w fun e w' => e = .returned (.tuple #[.bool false, .int .i64 1]) ∧ St w w' [] [] := by
  have S0 := Lib.hid (St.start w)
  go_enter Try.func15, Try.ntmps15
  go_wp2_with ((with_reducible refine at_slot (N := 9) rfl ?_); refine box_law rfl _ _ #[.int .i64 f, .int .i64 t] rfl rfl S0.out ?_; intro sb w1 h1; have y0 := (St.blk h1 (b := sb) (t := 32) (c := #[.int .i64 f, .int .i64 t]) mem0).cell (i := 0) rfl; have y1 := (St.blk h1 (b := sb) (t := 32) (c := #[.int .i64 f, .int .i64 t]) mem0).cell (i := 1) rfl; (try simp only [World.size_alloc, List.nil_append, List.cons_append, List.append_eq] at h1); have S1 := Lib.hid h1; clear h1 S0)
  refine (fits_nil v1 v2 v3 f t _).mono ?_
  rintro e w2 ⟨rfl, hh⟩
  have h2 := S1.out.call hh; clear hh S1
  try simp only [List.nil_append, List.cons_append, List.append_eq, Int.toNat_natCast] at h2
  have S2 := Lib.hid h2; clear h2
  go_wp2_with fail
  go_ret2
  exact ⟨rfl, S2.out.nil⟩

set_option maxRecDepth 100000 in
set_option maxHeartbeats 2000000 in
theorem agrees_bad {p j : Nat} {S : List Ent} {A1 A2 A3 : Option Addr} {n1 n2 n3 c1 c2 c3 : Nat} {rows srcs dsts : List (List Nat)} {f t : Int} {w : World} (hS : SetE p j S) (hb : There w S) (h1 : rows.length = n1) (h2 : srcs.length = n2) (h3 : dsts.length = n3) (hf1 : Fit rows) (hf2 : Fit srcs) (hf3 : Fit dsts)
    (hr : RdL w [] A1 rows) (hs : RdL w [] A2 srcs) (hd : RdL w [] A3 dsts) (hE : fitsE rows srcs dsts f t ≠ 0) :
    Calls Try.prog 15 #[.pointer (some ⟨p, 0, none⟩), .slice A1 n1 c1, .slice A2 n2 c2, .slice A3 n3 c3, .agg #[.int .i64 f, .int .i64 t]] w fun e w' => e = .returned (.tuple #[.bool false, .int .i64 (fitsE rows srcs dsts f t)]) ∧ St w w' [] [] := by
  have HC := Lib.hid (fun (w2 : World) (N : List Ent) (h : St w w2 [] N) => fits_st (c1 := c1) (c2 := c2) (c3 := c3) (f := f) (t := t) hS (hb.keep h (by simp)) h1 h2 h3 hf1 hf2 hf3 (h.extL hr) (h.extL hs) (h.extL hd))
  obtain ⟨E, HE⟩ : ∃ E, Hid (fitsE rows srcs dsts f t = E) := ⟨_, Lib.hid rfl⟩
  rw [HE.out] at HC hE ⊢
  have q1 : (E == 0) = false := by simpa using hE
  have q2 : (E != 0) = true := by rw [bne_iff_ne]; exact hE
  have S0 := Lib.hid (St.start w)
  clear hS hb h1 h2 h3 hf1 hf2 hf3 hr hs hd hE
  go_enter Try.func15, Try.ntmps15
  go_wp2_with ((with_reducible refine at_slot (N := 9) rfl ?_); refine box_law rfl _ _ #[.int .i64 f, .int .i64 t] rfl rfl S0.out ?_; intro sb w1 h1; have y0 := (St.blk h1 (b := sb) (t := 32) (c := #[.int .i64 f, .int .i64 t]) mem0).cell (i := 0) rfl; have y1 := (St.blk h1 (b := sb) (t := 32) (c := #[.int .i64 f, .int .i64 t]) mem0).cell (i := 1) rfl; (try simp only [World.size_alloc, List.nil_append, List.cons_append, List.append_eq] at h1); have S1 := Lib.hid h1; clear h1 S0)
  refine (HC.out _ _ S1.out).mono ?_
  rintro e w2 ⟨rfl, hh⟩
  have h2 := S1.out.call hh; clear hh S1
  try simp only [List.nil_append, List.cons_append, List.append_eq, Int.toNat_natCast] at h2
  have S2 := Lib.hid h2; clear h2
  go_wp2_with fail
  go_ret2
  exact ⟨rfl, S2.out.nil⟩

set_option maxRecDepth 100000 in
set_option maxHeartbeats 4000000 in
theorem agrees_ok {p j : Nat} {S : List Ent} {A1 A2 A3 : Option Addr} {n1 n2 n3 c1 c2 c3 : Nat} {rows srcs L : List (List Nat)} {f t : Nat} {w : World} (hS : SetE p j S) (hb : There w S) (h1 : rows.length = n1) (h2 : srcs.length = n2) (h3 : L.length = n3) (hf1 : Fit rows) (hf2 : Fit srcs) (hf3 : Fit L)
    (h81 : B8L rows) (h82 : B8L srcs) (h83 : B8L L) (hr : ∀ x, w.heap.size ≤ x → RdL w [x] A1 rows) (hs : ∀ x, w.heap.size ≤ x → RdL w [x] A2 srcs) (hd : RdL w [] A3 L) (hE : fitsE rows srcs L (f : Int) (t : Int) = 0) :
    Calls Try.prog 15 #[.pointer (some ⟨p, 0, none⟩), .slice A1 n1 c1, .slice A2 n2 c2, .slice A3 n3 c3, .agg #[.int .i64 (f : Int), .int .i64 (t : Int)]] w fun e w' => e = .returned (.tuple #[.bool (decide (Agr rows srcs L f (t - f))), .int .i64 0]) ∧ St w w' [] [] := by
  obtain ⟨⟨g1, g2, g3⟩, g4, g5, g6⟩ := fits_zero hE
  obtain rfl : n1 = n3 := by omega
  obtain ⟨k, hk⟩ : ∃ k, t = f + k := ⟨t - f, by omega⟩
  subst hk
  rw [show f + k - f = k by omega]
  rw [Int.natCast_add] at hE
  have HC := Lib.hid (fun (w2 : World) (N : List Ent) (h : St w w2 [] N) => fits_st (c1 := c1) (c2 := c2) (c3 := c3) (f := (f : Int)) (t := (f : Int) + (k : Int)) hS (hb.keep h (by simp)) h1 h2 h3 hf1 hf2 hf3 (h.extL ((hr _ (Nat.le_refl _)).sub (by simp))) (h.extL ((hs _ (Nat.le_refl _)).sub (by simp))) (h.extL hd))
  rw [hE] at HC
  have HLM : Hid (∀ l ∈ srcs ++ L, f + k ≤ l.length) := Lib.hid (fun l hl => by rw [same_len g3 hl]; omega)
  have hfk : f + k ≤ 140737488351232 := by
    by_cases h0 : srcs ++ L = []
    · rw [h0] at g6; simp [lenM] at g6; omega
    · have hl : (srcs ++ L).getD 0 [] ∈ srcs ++ L := mem_getD (by cases h : srcs ++ L with | nil => exact (h0 h).elim | cons a b => simp)
      have hle : lenM (srcs ++ L) ≤ 140737488351232 := by
        unfold lenM
        rcases List.mem_append.1 hl with h | h
        · exact hf2.2 _ h
        · exact hf3.2 _ h
      omega
  have hb1 : n1 ≤ 140737488351232 := by have := hf1.1; omega
  have SE := Lib.hid hS; have HB := Lib.hid hb; have H1 := Lib.hid h1; have H2 := Lib.hid h2; have H3 := Lib.hid h3; have F1 := Lib.hid hf1; have F2 := Lib.hid hf2; have F3 := Lib.hid hf3
  have H81 := Lib.hid h81; have H82 := Lib.hid h82; have H83 := Lib.hid h83; have HR := Lib.hid hr; have HS := Lib.hid hs; have HD := Lib.hid hd
  have G2 := Lib.hid g2
  obtain ⟨B, HBB⟩ : ∃ B, Hid (decide (Agr rows srcs L f k) = B) := ⟨_, Lib.hid rfl⟩
  rw [HBB.out]
  have S0 := Lib.hid (St.start w)
  have f0 : (0 : Int) ≤ (f : Int) := by omega
  have k0 : (0 : Int) ≤ (k : Int) := by omega
  have hsub : (f : Int) + (k : Int) - (f : Int) = (k : Int) := by omega
  clear hS hb h1 h2 h3 hf1 hf2 hf3 h81 h82 h83 hr hs hd hE g1 g2 g3 g4 g5 g6
  go_enter Try.func15, Try.ntmps15
  go_wp2_with ((with_reducible refine at_slot (N := 9) rfl ?_); refine box_law rfl _ _ #[.int .i64 (f : Int), .int .i64 ((f + k : Nat) : Int)] rfl rfl S0.out ?_; intro sb w1 h1; have y0 := (St.blk h1 (b := sb) (t := 32) (c := #[.int .i64 (f : Int), .int .i64 ((f + k : Nat) : Int)]) mem0).cell (i := 0) rfl; have y1 := (St.blk h1 (b := sb) (t := 32) (c := #[.int .i64 (f : Int), .int .i64 ((f + k : Nat) : Int)]) mem0).cell (i := 1) rfl; (try simp only [World.size_alloc, List.nil_append, List.cons_append, List.append_eq] at h1); have S1 := Lib.hid h1; clear h1 S0)
  refine (HC.out _ _ S1.out).mono ?_
  rintro e w2 ⟨rfl, hh⟩
  have h2 := S1.out.call hh; clear hh S1
  try simp only [List.nil_append, List.cons_append, List.append_eq, Int.toNat_natCast] at h2
  have S2 := Lib.hid h2; clear h2
  clear y0 y1
  have y0 := (S2.out.blk (b := sb) (t := 32) (c := #[.int .i64 (f : Int), .int .i64 ((f + k : Nat) : Int)]) mem0).cell (i := 0) rfl
  have y1 := (S2.out.blk (b := sb) (t := 32) (c := #[.int .i64 (f : Int), .int .i64 ((f + k : Nat) : Int)]) mem0).cell (i := 1) rfl
  go_wp2_with ((with_reducible refine at_slot (N := 32) rfl ?_); refine make_law rfl 39 5 _ .u8 (k) 1 rfl rfl Try.underlying39 info_u8 (by omega) (by omega) S2.out ?_; intro bw w3 h3; (try simp only [World.size_alloc, List.nil_append, List.cons_append, List.append_eq] at h3); have S3 := Lib.hid h3; clear h3 S2)
  have SQ := S3; clear S3
  clear y0 y1 hsub
  have hbw : w.heap.size ≤ bw := SQ.out.ge mem0
  have HNEB : Hid (∀ e ∈ S, e.b ≠ bw) := Lib.hid (fun e he hb => by have := (HB.out e he).lt; omega)
  go_loopw [35] (fun vi wq => ∃ (i : Nat) (X : List Nat), i ≤ n1 ∧ vi = .int .i64 i ∧ X.length = k ∧ B8 X ∧ St w wq [] [bt bw X, ⟨sb, 32, #[.int .i64 (f : Int), .int .i64 ((f + k : Nat) : Int)]⟩] ∧ ∀ r, r < i → ((L.getD r []).drop f).take k = sumL (rows.getD r []) srcs f k) (fun vi _ => n1 - (intOf vi).toNat)
  case atStart => exact ⟨0, zs k, by omega, rfl, zs_length k, B8.zeros k, SQ.out, fun r hr => by omega⟩
  case round =>
    clear SQ
    obtain ⟨i, X, hi, rfl, hX, hX8, hs, hall⟩ := hrel
    have S3 := Lib.hid hs; have HX := Lib.hid hX; have HX8 := Lib.hid hX8; have HALL := Lib.hid hall; clear hs hX hX8 hall
    by_cases hlt : i < n1
    · have y0 := (S3.out.blk (b := sb) (t := 32) (c := #[.int .i64 (f : Int), .int .i64 ((f + k : Nat) : Int)]) mem1).cell (i := 0) rfl
      have y1 := (S3.out.blk (b := sb) (t := 32) (c := #[.int .i64 (f : Int), .int .i64 ((f + k : Nat) : Int)]) mem1).cell (i := 1) rfl
      obtain ⟨b4, o4, B4, d4, e4, x4, g4, r4, off4⟩ := (S3.out.extL (HR.out bw hbw)).at (i := i) (by rw [H1.out]; exact hlt)
      obtain ⟨b5, o5, B5, d5, e5, x5, g5, r5, off5⟩ := HD.out.at (i := i) (by rw [H3.out]; exact hlt)
      subst e4 e5
      rw [G2.out _ (mem_getD (by rw [H1.out]; exact hlt)), H2.out] at x4
      have R4 := Lib.hid r4; have O4 := Lib.hid off4; have G5 := Lib.hid g5
      have H84 := Lib.hid (H81.out.get i)
      have HL4 : Hid ((rows.getD i []).length = n2) := Lib.hid (by rw [G2.out _ (mem_getD (by rw [H1.out]; exact hlt)), H2.out])
      clear r4 off4 g4 off5
      obtain ⟨ln, hln⟩ : ∃ ln, Hid ((L.getD i []).length = ln) := ⟨_, Lib.hid rfl⟩
      have H8L := Lib.hid (H83.out.get i)
      have hfit : f + k ≤ ln := by rw [← hln.out]; exact HLM.out _ (List.mem_append_right _ (mem_getD (by rw [H3.out]; exact hlt)))
      rw [hln.out] at x5 g5
      have K5 := Lib.hid (fun (w' : World) (N' : List Ent) (hs : St w w' [] N') => (⟨by rw [hs.below.cell (p := ⟨b5, o5 + i, none⟩) (cell_lt x5)]; exact x5, hs.ext r5⟩ : w'.cell? ⟨b5, o5 + i, none⟩ = some (.slice B5 ln d5) ∧ Rd w' B5 (L.getD i [])))
      clear x5 r5
      have HDI : Hid (L.getD i [] = L.getD i []) := Lib.hid rfl
      have HAG : Hid (Agr rows srcs L f k → ((L.getD i []).drop f).take k = sumL (rows.getD i []) srcs f k) := Lib.hid (fun h => h i (by rw [H3.out]; exact hlt))
      have HALL2 : Hid (((L.getD i []).drop f).take k = sumL (rows.getD i []) srcs f k → ∀ r, r < i + 1 → ((L.getD r []).drop f).take k = sumL (rows.getD r []) srcs f k) := Lib.hid (fun h r hr => by
        rcases Nat.lt_or_ge r i with h1 | h1
        · exact HALL.out r h1
        · obtain rfl : r = i := by omega
          exact h)
      clear HALL HDI
      generalize L.getD i [] = D at *
      generalize rows.getD i [] = row at *
      have HCS := Lib.hid (sum_at (kc := d4) (mc := c2) (f := f) (n := k) (cd := k) (od := 0) (bd := bw) (D := X) (row := row) (srcs := srcs) (w := wr) (k := n2) (m := n2) SE.out (HB.out.keep S3.out (by simp)) HNEB.out (S3.out.blk mem0) (by rw [HX.out]; omega) HX8.out (Nat.le_refl _) HL4.out R4.out O4.out H84.out H2.out (Nat.le_refl _) (S3.out.extL (HS.out bw hbw)) (fun l hl => ⟨H82.out l hl, HLM.out l (List.mem_append_left _ hl), F2.out.2 l hl⟩) (by omega) hfk (by have := F2.out.1; have := H2.out; omega))
      have HSL := Lib.hid (sumL_length row srcs f k)
      have HS8 := Lib.hid (sumK_b8 (row := row) (srcs := srcs) (f := f) (n := k) (i := row.length) H84.out (Nat.le_refl _))
      have i1 : (i : Int) < (n1 : Int) := by omega
      go_wp2_with fail
      refine HCS.out.mono ?_
      rintro e w4 ⟨rfl, hh⟩
      have h4 := S3.out.callN (N1 := []) hh
      rw [wr_all _ _ (by rw [HX.out, HSL.out]), List.nil_append, List.nil_append] at h4
      have S4 := Lib.hid h4
      clear h4 HCS hh x4 y0 y1
      have y0 := (S4.out.blk (b := sb) (t := 32) (c := #[.int .i64 (f : Int), .int .i64 ((f + k : Nat) : Int)]) mem1).cell (i := 0) rfl
      have y1 := (S4.out.blk (b := sb) (t := 32) (c := #[.int .i64 (f : Int), .int .i64 ((f + k : Nat) : Int)]) mem1).cell (i := 1) rfl
      have x5 := (K5.out _ _ S4.out).1
      go_wp2_with fail
      refine wp_region_quiet_lit (by kernel_rfl) (by kernel_rfl) ?_
      iterate 8 (first | go_big_quiet_step (fail) | quiet_step (fail))
      refine quiet_slice rfl 39 5 Try.underlying39 (by kernel_rfl) _ _ _ rfl B5 ln d5 f k rfl _ _ rfl rfl rfl (by simp) (by omega) ?_
      iterate 2 (first | go_big_quiet_step (fail) | quiet_step (fail))
      refine wpQuiet_nil ?_
      rintro _ ⟨nq, rfl⟩
      have S5 := Lib.hid (S4.out.drewN (n := nq)); clear S4 x5 y0 y1
      have R6 := Lib.hid (Rd.cut (K5.out _ _ S5.out).2 d5 f k G5.out)
      have HL6 : Hid (((D.drop f).take k).length = k) := Lib.hid (by rw [List.length_take, List.length_drop, hln.out]; omega)
      have H86 := Lib.hid (H8L.out.piece f k)
      have R7 := Lib.hid (S5.out.rd mem0)
      obtain ⟨A6, hA6⟩ : ∃ A6, Hid (cutA B5 d5 f = A6) := ⟨_, Lib.hid rfl⟩
      rw [hA6.out] at R6 ⊢
      generalize (D.drop f).take k = U at *
      generalize hV : sumL row srcs f k = V at *
      rw [show sumK row srcs f k row.length = V from hV] at HS8
      clear hV K5
      generalize w4.drewN nq = w5 at *
      go_wp2_with fail
      go_loop [57] (fun vi => ∃ u : Nat, u ≤ k ∧ vi = .int .i64 u ∧ U.take u = V.take u) (fun vi => k - (intOf vi).toNat)
      case atStart => exact ⟨0, by omega, rfl, rfl⟩
      case round =>
        obtain ⟨u, hu, rfl, ht⟩ := hrel
        have HT := Lib.hid ht; clear ht
        by_cases huk : u < k
        · obtain ⟨b6, o6, e6, k6⟩ := R6.out (by rw [HL6.out]; omega)
          obtain ⟨b7, o7, e7, k7⟩ := R7.out (by rw [HSL.out]; omega)
          injection e7 with e7; injection e7 with e71 e72 _
          have x6 := k6 u (by rw [HL6.out]; exact huk)
          have x7 := k7 u (by rw [HSL.out]; exact huk)
          rw [← e71, ← e72, Nat.zero_add] at x7
          subst e6
          have y6 := H86.out.get (i := u) (by rw [HL6.out]; exact huk)
          have y7 := HS8.out.get (i := u) (by rw [HSL.out]; exact huk)
          have HG1 : Hid (U[u]? = some (U.getD u 0)) := Lib.hid (by have := HL6.out; simp [show u < U.length by omega])
          have HG2 : Hid (V[u]? = some (V.getD u 0)) := Lib.hid (by have := HSL.out; simp [show u < V.length by omega])
          clear k6 k7 e71 e72
          generalize U.getD u 0 = a at *
          generalize V.getD u 0 = b at *
          have i2 : (u : Int) < (k : Int) := by omega
          by_cases hab : a = b
          · subst hab
            have HT2 : Hid (U.take (u + 1) = V.take (u + 1)) := Lib.hid (by rw [List.take_add_one, List.take_add_one, HT.out, HG1.out, HG2.out])
            clear R6 R7
            go_wp2_with fail
            clear x6 x7
            go_round
            case rel => exact ⟨u + 1, by omega, by go_num, HT2.out⟩
            case measure => simp [intOf]; omega
          · have q2 : (((a : Nat) : Int) != ((b : Nat) : Int)) = true := by rw [bne_iff_ne]; omega
            have q4 : (((a : Nat) : Int) == ((b : Nat) : Int)) = false := by rw [beq_eq_false_iff_ne]; omega
            have q1 : (a == b) = false := by simpa using hab
            have q3 : (a != b) = true := by rw [bne_iff_ne]; exact hab
            have HQ : Hid (B = false) := Lib.hid (by
              rw [← HBB.out, decide_eq_false_iff_not]
              intro h
              have h2 := HAG.out h
              have h3 := HG1.out
              rw [h2, HG2.out] at h3
              injection h3 with h3
              exact hab h3.symm)
            clear hab R6 R7
            go_wp2_with fail
            go_ret2
            have hq := HQ.out
            subst hq
            exact ⟨rfl, S5.out.nil⟩
        · obtain rfl : u = k := by omega
          have hUV : U = V := by
            have := HT.out
            rw [List.take_of_length_le (by rw [HL6.out]; exact Nat.le_refl _), List.take_of_length_le (by rw [HSL.out]; exact Nat.le_refl _)] at this
            exact this
          have HA2 := Lib.hid (HALL2.out hUV)
          clear hUV
          go_wp2_with fail
          refine ⟨⟨i + 1, V, by omega, by simp, HSL.out, HS8.out, S5.out, HA2.out⟩, ?_⟩
          simp [intOf]; omega
    · obtain rfl : i = n1 := by omega
      have HQ : Hid (B = true) := Lib.hid (by
        rw [← HBB.out, decide_eq_true_eq]
        intro r hr
        exact HALL.out r (by rw [← H3.out]; exact hr))
      go_wp2_with fail
      go_ret2
      have hq := HQ.out
      subst hq
      exact ⟨rfl, S3.out.nil⟩

end Go.Proofs.Ytdbfkjhdnbmpeaa.Sk
