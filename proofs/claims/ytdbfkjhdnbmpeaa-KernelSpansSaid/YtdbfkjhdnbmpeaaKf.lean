/- Layer 9: Apply. -/
import Derived.Test.YtdbfkjhdnbmpeaaKe
namespace Go.Proofs.Ytdbfkjhdnbmpeaa.Sk
set_option linter.unusedSimpArgs false
set_option linter.unusedVariables false
open Go Go.RowKit Go.Proofs.Ytdbfkjhdnbmpeaa Go.Proofs.Ytdbfkjhdnbmpeaa.Mm Go.Proofs.Ytdbfkjhdnbmpeaa.Gf Go.Proofs.Ytdbfkjhdnbmpeaa.Wr Go.Proofs.Ytdbfkjhdnbmpeaa.Nb Go.Proofs.Ytdbfkjhdnbmpeaa.St

theorem same_len {X : List (List Nat)} (h : Same X) {l : List Nat} (hl : l ∈ X) : l.length = lenM X := h l hl
theorem appR_len {rows srcs L : List (List Nat)} {f k : Nat} (i : Nat) : (appR rows srcs L f k i).map (·.length) = L.map (·.length) := by
  apply List.ext_getElem?
  intro j
  have e := appR_length rows srcs L f k i
  rw [List.getElem?_map, List.getElem?_map]
  by_cases hj : j < L.length
  · have h1 : (appR rows srcs L f k i)[j]? = some ((appR rows srcs L f k i).getD j []) := by simp [show j < (appR rows srcs L f k i).length by omega]
    have h2 : L[j]? = some (L.getD j []) := by simp [hj]
    rw [h1, h2, appR_get]
    simp only [Option.map_some]
    split
    · rw [wr_length]
    · rfl
  · rw [List.getElem?_eq_none (by omega), List.getElem?_eq_none (by omega)]

set_option maxRecDepth 100000 in
set_option maxHeartbeats 4000000 in
theorem apply_ok {p j : Nat} {S : List Ent} {A1 A2 A3 : Option Addr} {n1 n2 n3 c1 c2 c3 : Nat} {rows srcs L : List (List Nat)} {bs : List Nat} {f t : Nat} {w : World} (hS : SetE p j S) (hb : There w S) (hne : ∀ e ∈ S, e.b ∉ bs) (h1 : rows.length = n1) (h2 : srcs.length = n2) (h3 : L.length = n3) (hf1 : Fit rows) (hf2 : Fit srcs) (hf3 : Fit L)
    (h81 : B8L rows) (h82 : B8L srcs) (h83 : B8L L) (hbs : bs.length = L.length) (hX : St w w (ents bs L) []) (hr : RdL w bs A1 rows) (hs : RdL w bs A2 srcs) (hd : RdV es w A3 (sds bs L)) (hA3 : Off bs A3) (hE : fitsE rows srcs L (f : Int) (t : Int) = 0) :
    Calls Try.prog 14 #[.pointer (some ⟨p, 0, none⟩), .slice A1 n1 c1, .slice A2 n2 c2, .slice A3 n3 c3, .agg #[.int .i64 (f : Int), .int .i64 (t : Int)]] w fun e w' => e = .returned (.int .i64 0) ∧ St w w' (ents bs (appL rows srcs L f (t - f))) [] := by
  obtain ⟨⟨g1, g2, g3⟩, g4, g5, g6⟩ := fits_zero hE
  obtain rfl : n1 = n3 := by omega
  obtain ⟨k, hk⟩ : ∃ k, t = f + k := ⟨t - f, by omega⟩
  subst hk
  rw [show f + k - f = k by omega]
  rw [Int.natCast_add] at hE
  have HC := Lib.hid (fun (w2 : World) (N : List Ent) (h : St w w2 (ents bs L) N) => fits_st (c1 := c1) (c2 := c2) (c3 := c3) (f := (f : Int)) (t := (f : Int) + (k : Int)) hS (hb.keep h (fun e he x hx hxe => hne e he (by rw [← hxe]; exact ents_b' hbs x hx))) h1 h2 h3 hf1 hf2 hf3 ((h.rdLX hr (ents_b' hbs)).sub (by simp)) ((h.rdLX hs (ents_b' hbs)).sub (by simp)) (rdL_of hbs (h.rdVX hd hA3 (ents_b' hbs)) (Off.nil _) (fun e he => (h.wrt e he).2) (fun b _ => by simp)))
  rw [hE] at HC
  have HLM : Hid (∀ l ∈ srcs ++ L, f + k ≤ l.length) := Lib.hid (fun l hl => by rw [same_len g3 hl]; omega)
  have hfk : n1 ≠ 0 → f + k ≤ 140737488351232 := fun h => by
    have := HLM.out (L.getD 0 []) (List.mem_append_right _ (mem_getD (by omega)))
    have := hf3.get 0
    omega
  have HFK := Lib.hid hfk
  have hb1 : n1 ≤ 140737488351232 := by have := hf1.1; omega
  have SE := Lib.hid hS; have HB := Lib.hid hb; have HNE := Lib.hid hne; have H1 := Lib.hid h1; have H2 := Lib.hid h2; have H3 := Lib.hid h3; have F1 := Lib.hid hf1; have F2 := Lib.hid hf2; have F3 := Lib.hid hf3
  have H81 := Lib.hid h81; have H82 := Lib.hid h82; have H83 := Lib.hid h83; have HBS := Lib.hid hbs; have HR := Lib.hid hr; have HS := Lib.hid hs; have HD := Lib.hid hd; have HA3 := Lib.hid hA3
  have G2 := Lib.hid g2
  have S0 : Hid (St w w (ents bs (appR rows srcs L f k 0)) []) := Lib.hid hX
  have HEND : Hid (appR rows srcs L f k n1 = appL rows srcs L f k) := Lib.hid (by unfold appL; rw [h3])
  have HAL := Lib.hid (appR_length rows srcs L f k)
  clear hS hb hne h1 h2 h3 hf1 hf2 hf3 h81 h82 h83 hbs hX hr hs hd hA3 hE g1 g2 g3 g4 g5 g6 hfk
  go_enter Try.func14, Try.ntmps14
  go_wp2_with ((with_reducible refine at_slot (N := 9) rfl ?_); refine box_law rfl _ _ #[.int .i64 (f : Int), .int .i64 ((f + k : Nat) : Int)] rfl rfl S0.out ?_; intro sb w1 h1; have y0 := (St.blk h1 (b := sb) (t := 32) (c := #[.int .i64 (f : Int), .int .i64 ((f + k : Nat) : Int)]) mem0).cell (i := 0) rfl; have y1 := (St.blk h1 (b := sb) (t := 32) (c := #[.int .i64 (f : Int), .int .i64 ((f + k : Nat) : Int)]) mem0).cell (i := 1) rfl; (try simp only [World.size_alloc, List.nil_append, List.cons_append, List.append_eq] at h1); have S1 := Lib.hid h1; clear h1 S0)
  refine (HC.out _ _ S1.out).mono ?_
  rintro e w2 ⟨rfl, hh⟩
  have h2 := S1.out.call hh; clear hh S1
  try simp only [List.nil_append, List.cons_append, List.append_eq, Int.toNat_natCast] at h2
  have S2 := Lib.hid h2; clear h2
  have SQ := S2; clear S2
  go_wp2_with fail
  clear HC y0 y1
  go_loopw [25] (fun vi wq => ∃ i : Nat, i ≤ n1 ∧ vi = .int .i64 i ∧ St w wq (ents bs (appR rows srcs L f k i)) [⟨sb, 32, #[.int .i64 (f : Int), .int .i64 ((f + k : Nat) : Int)]⟩]) (fun vi _ => n1 - (intOf vi).toNat)
  case atStart => exact ⟨0, by omega, rfl, SQ.out⟩
  case round =>
    clear SQ
    obtain ⟨i, hi, rfl, hs⟩ := hrel
    have S3 := Lib.hid hs; clear hs
    by_cases hlt : i < n1
    · have y0 := (S3.out.blk (b := sb) (t := 32) (c := #[.int .i64 (f : Int), .int .i64 ((f + k : Nat) : Int)]) mem0).cell (i := 0) rfl
      have y1 := (S3.out.blk (b := sb) (t := 32) (c := #[.int .i64 (f : Int), .int .i64 ((f + k : Nat) : Int)]) mem0).cell (i := 1) rfl
      have HBE := Lib.hid (ents_b' (bs := bs) (L := appR rows srcs L f k i) (by rw [HBS.out, HAL.out]))
      obtain ⟨b4, o4, B4, d4, e4, x4, g4, r4, off4⟩ := (S3.out.rdLX HR.out HBE.out).at (i := i) (by rw [H1.out]; exact hlt)
      subst e4
      rw [G2.out _ (mem_getD (by rw [H1.out]; exact hlt)), H2.out] at x4
      have R4 := Lib.hid r4; have O4 := Lib.hid off4
      have H84 := Lib.hid (H81.out.get i)
      have HL4 : Hid ((rows.getD i []).length = n2) := Lib.hid (by rw [G2.out _ (mem_getD (by rw [H1.out]; exact hlt)), H2.out])
      clear r4 off4 g4
      obtain ⟨b5, o5, e5, k5⟩ := (S3.out.rdVX HD.out HA3.out HBE.out) (by rw [sds_length HBS.out, H3.out]; omega)
      have x5 := k5 i _ (sds_get HBS.out (by rw [H3.out]; exact hlt))
      subst e5
      clear k5
      simp only [es] at x5
      obtain ⟨ln, hln⟩ : ∃ ln, Hid ((L.getD i []).length = ln) := ⟨_, Lib.hid rfl⟩
      rw [hln.out] at x5
      have hfit : f + k ≤ ln := by rw [← hln.out]; exact HLM.out _ (List.mem_append_right _ (mem_getD (by rw [H3.out]; exact hlt)))
      have hl47 : ln ≤ 140737488351232 := by rw [← hln.out]; exact F3.out.get i
      have HBB : Hid (bs.getD i 0 ∈ bs) := Lib.hid (mem_getD (by rw [HBS.out, H3.out]; exact hlt))
      obtain ⟨P, Q, hP, hQ⟩ := ents_split (bs := bs) (L := appR rows srcs L f k i) (i := i) (by rw [HBS.out, HAL.out]) (by rw [HAL.out, H3.out]; exact hlt)
      have HP := Lib.hid hP; have HQ := Lib.hid hQ; clear hP hQ
      have HGI : Hid ((appR rows srcs L f k i).getD i [] = L.getD i []) := Lib.hid (by rw [appR_get, if_neg (by omega)])
      rw [HGI.out] at HP
      have HST : Hid ((appR rows srcs L f k i).set i (Wr.wr (L.getD i []) f (sumL (rows.getD i []) srcs f k)) = appR rows srcs L f k (i + 1)) := Lib.hid rfl
      have HQ2 := Lib.hid (HQ.out (Wr.wr (L.getD i []) f (sumL (rows.getD i []) srcs f k)))
      rw [HST.out] at HQ2
      have H8L := Lib.hid (H83.out.get i)
      have S4 : Hid (St w wr (P ++ bt (bs.getD i 0) (L.getD i []) :: Q) [⟨sb, 32, #[.int .i64 (f : Int), .int .i64 ((f + k : Nat) : Int)]⟩]) := Lib.hid (by rw [← HP.out]; exact S3.out)
      clear HQ
      generalize bs.getD i 0 = bd at *
      generalize L.getD i [] = D at *
      generalize rows.getD i [] = row at *
      obtain ⟨od, hod, hod1, hod2⟩ := cutA_some (b := bd) (o := 0) ln f
      have hodw := wr_cut (D := D) (l := sumL row srcs f k) (od := od) (f := f) (n := k) (sumL_length _ _ _ _) (fun h => by rw [hod2 (by omega)]; omega)
      have HODW := Lib.hid hodw
      have HOD := Lib.hid hod
      have HNEB : Hid (∀ e ∈ S, e.b ≠ bd) := Lib.hid (fun e he hb => HNE.out e he (by rw [hb]; exact HBB.out))
      have HCS := Lib.hid (fun (m : Nat) => sum_at (kc := d4) (mc := c2) (f := f) (n := k) (cd := ln - f) (od := od) (bd := bd) (D := D) (row := row) (srcs := srcs) (w := wr.drewN m) (k := n2) (m := n2) SE.out (HB.out.keep (S3.out.drewN (n := m)) (fun e he x hx hxe => HNE.out e he (by rw [← hxe]; exact HBE.out x hx))) HNEB.out ((S4.out.drewN (n := m)).blkW (by simp)) (by rw [hln.out]; omega) H8L.out (by omega) HL4.out R4.out (O4.out.sub (fun x hx => by rw [List.mem_singleton] at hx; rw [hx]; exact HBB.out)) H84.out H2.out (Nat.le_refl _) (((S3.out.drewN (n := m)).rdLX HS.out HBE.out).sub (fun x hx => by rw [List.mem_singleton] at hx; rw [hx]; exact HBB.out)) (fun l hl => ⟨H82.out l hl, HLM.out l (List.mem_append_left _ hl), F2.out.2 l hl⟩) (by have := HFK.out (by omega); omega) (HFK.out (by omega)) (by have := F2.out.1; have := H2.out; omega))
      clear hodw hod hod1 hod2
      have i1 : (i : Int) < (n1 : Int) := by omega
      have f0 : (0 : Int) ≤ (f : Int) := by omega
      have k0 : (0 : Int) ≤ (k : Int) := by omega
      go_wp2_with fail
      refine Qt.quiet_tail 14 (by kernel_rfl) (by kernel_rfl) ?_
      simp only [List.take_succ_cons, List.take_zero, List.drop_succ_cons, List.drop_zero]
      iterate 13 (first | go_big_quiet_step (fail) | quiet_step (fail))
      refine quiet_slice rfl 39 5 Try.underlying39 (by kernel_rfl) _ _ _ rfl (some ⟨bd, 0, none⟩) ln ln f k rfl _ _ rfl rfl rfl (by simp) hfit ?_
      refine wpQuiet_nil ?_
      rintro _ ⟨nq, rfl⟩
      rw [HOD.out]
      clear x4 x5 y0 y1
      go_wp2_with fail
      refine (HCS.out nq).mono ?_
      rintro e w3 ⟨rfl, hh⟩
      have h5 := (S4.out.drewN (n := nq)).callW hh
      rw [HODW.out, ← HQ2.out, List.nil_append] at h5
      have S5 := Lib.hid h5
      clear hh h5 S4 S3 HCS
      go_wp2_with fail
      refine ⟨⟨i + 1, by omega, by simp, S5.out⟩, ?_⟩
      simp [intOf]; omega
    · obtain rfl : i = n1 := by omega
      rw [HEND.out] at S3
      go_wp2_with fail
      go_ret
      exact ⟨rfl, S3.out.nil⟩

end Go.Proofs.Ytdbfkjhdnbmpeaa.Sk
