/- Layer 9: the helpers of the laws: copied, copies, equal, all. -/
import Derived.Test.YtdbfkjhdnbmpeaaKa
namespace Go.Proofs.Ytdbfkjhdnbmpeaa.Sk
set_option linter.unusedSimpArgs false
set_option linter.unusedVariables false
open Go Go.RowKit Go.Proofs.Ytdbfkjhdnbmpeaa Go.Proofs.Ytdbfkjhdnbmpeaa.Mm Go.Proofs.Ytdbfkjhdnbmpeaa.Gf Go.Proofs.Ytdbfkjhdnbmpeaa.Wr Go.Proofs.Ytdbfkjhdnbmpeaa.Nb Go.Proofs.Ytdbfkjhdnbmpeaa.St

set_option maxRecDepth 100000 in
set_option maxHeartbeats 1000000 in
theorem copied_st {A : Option Addr} {m c : Nat} {l : List Nat} {w : World} (hm : l.length = m) (hl : m ≤ 281474976710656) (h : Rd w A l) :
    Calls Try.prog 16 #[.slice A m c] w fun e w' => ∃ b, e = .returned (.slice (some ⟨b, 0, none⟩) m m) ∧ St w w' [] [bt b l] := by
  have H := Lib.hid h; have HM := Lib.hid hm
  have S0 := Lib.hid (St.start w)
  clear h hm
  go_enter Try.func16, Try.ntmps16
  go_wp2_with ((with_reducible refine at_slot (N := 7) rfl ?_); refine make_law rfl 39 5 _ .u8 (m) 1 rfl rfl Try.underlying39 info_u8 (by omega) (by omega) S0.out ?_; intro b w1 h1; (try simp only [World.size_alloc, List.nil_append, List.cons_append, List.append_eq] at h1); have S1 := Lib.hid h1; clear h1 S0)
  have hz : zs m = fill (fun i => l.getD i 0) m 0 := by rw [fill_zero]; rfl
  rw [hz] at S1
  clear hz
  go_loopw [10] (fun vi wr => ∃ i : Nat, i ≤ m ∧ vi = .int .i64 i ∧ St w wr [] [bt b (fill (fun i => l.getD i 0) m i)]) (fun vi _ => m - (intOf vi).toNat)
  case atStart => exact ⟨0, by omega, rfl, S1.out⟩
  case round =>
    clear S1
    obtain ⟨i, hi, rfl, hs⟩ := hrel
    have S2 := Lib.hid hs; clear hs
    by_cases hlt : i < m
    · obtain ⟨b1, o1, e1, k1⟩ := (S2.out.ext H.out) (by rw [HM.out]; omega)
      have m1 := k1 i (by rw [HM.out]; exact hlt)
      have h1 := (S2.out.blk mem0).cellRow (i := i) (by rw [fill_length]; exact hlt)
      have f1 := (S2.out.blk mem0).free (i := i)
      have HF := Lib.hid (show (fill (fun i => l.getD i 0) m i).set i (l.getD i 0) = fill (fun i => l.getD i 0) m (i + 1) from fill_step (f := fun i => l.getD i 0) hlt)
      clear k1
      generalize (fill (fun i => l.getD i 0) m i).getD i 0 = y at *
      generalize hx : l.getD i 0 = x at *
      have HXX := Lib.hid hx
      clear hx
      have i1 : (i : Int) < (m : Int) := by omega
      go_wp2_with fail
      have S3 := Lib.hid (S2.out.setRow (N1 := []) i x)
      rw [HF.out] at S3
      refine ⟨⟨i + 1, by omega, by simp, S3.out⟩, ?_⟩
      simp [intOf]; omega
    · obtain rfl : i = m := by omega
      rw [fill_done] at S2
      have e : (List.range i).map (fun i => l.getD i 0) = l := by
        apply List.ext_getElem?
        intro j
        have := HM.out
        by_cases hj : j < l.length
        · simp [show j < i by omega, hj]
        · simp [show ¬ j < i by omega, hj]
      rw [e] at S2
      clear e
      go_wp2_with fail
      go_ret
      exact ⟨b, rfl, S2.out⟩

/-- The lists are not longer than memory. -/
def Fit (L : List (List Nat)) : Prop := L.length * 24 ≤ 140737488351232 ∧ ∀ l ∈ L, l.length ≤ 140737488351232
theorem Fit.get {L : List (List Nat)} (h : Fit L) (i : Nat) : (L.getD i []).length ≤ 140737488351232 := by
  by_cases hi : i < L.length
  · have e : L.getD i [] = L[i] := by simp [hi]
    rw [e]; exact h.2 _ (List.getElem_mem _)
  · simp [hi]
theorem take_snocL {L : List (List Nat)} {i : Nat} (hi : i < L.length) : L.take (i + 1) = L.take i ++ [L.getD i []] := by
  rw [List.take_succ_eq_append_getElem hi]; simp [hi]

theorem cons_perm (e : Ent) (G E : List Ent) : (e :: (G ++ E)).Perm (G ++ (E ++ [e])) := by
  rw [← List.append_assoc]; exact (List.perm_append_comm (l₁ := [e]) (l₂ := G ++ E))
set_option maxRecDepth 100000 in
set_option maxHeartbeats 2000000 in
theorem copies_st {A : Option Addr} {n c : Nat} {L : List (List Nat)} {w : World} (hn : L.length = n) (hf : Fit L) (h : RdL w [] A L) :
    Calls Try.prog 13 #[.slice A n c] w fun e w' => ∃ A' c' bs G, e = .returned (.slice A' n c') ∧ CopyL A' n c' bs L G ∧ St w w' [] (G ++ ents bs L) := by
  have H := Lib.hid h; have HN := Lib.hid hn; have HF := Lib.hid hf
  have hn24 : n * 24 ≤ 140737488351232 := by rw [← hn]; exact hf.1
  have S0 := Lib.hid (St.start w)
  clear h hn hf
  go_enter Try.func13, Try.ntmps13
  go_wp2_with fail
  go_loopw [3, 8] (fun vo vi wr => ∃ (i : Nat) (A' : Option Addr) (c' : Nat) (bs : List Nat) (G : List Ent), i ≤ n ∧ vi = .int .i64 i ∧ vo = .slice A' i c' ∧ CopyL A' i c' bs (L.take i) G ∧ St w wr [] (G ++ ents bs (L.take i))) (fun _ vi _ => n - (intOf vi).toNat)
  case atStart => exact ⟨0, none, 0, [], [], by omega, rfl, rfl, ⟨rfl, rfl, GrowV.nil, fun _ => rfl⟩, S0.out⟩
  case round =>
    clear S0
    obtain ⟨i, A1, c1, bs, G, hi, rfl, rfl, hc, hs⟩ := hrel
    have S1 := Lib.hid hs; have HC := Lib.hid hc; clear hs hc
    by_cases hlt : i < n
    · obtain ⟨ba, oa, B, cb, eA, ms, hcb, rs, _⟩ := (S1.out.extL H.out).at (i := i) (by rw [HN.out]; omega)
      subst eA
      have hll := HF.out.get i
      have HT := Lib.hid (take_snocL (L := L) (i := i) (by rw [HN.out]; exact hlt))
      have HLT : Hid ((L.take i).length = i) := Lib.hid (by rw [List.length_take, HN.out]; omega)
      generalize L.getD i [] = l at *
      obtain ⟨ln, hln⟩ : ∃ ln, Hid (l.length = ln) := ⟨_, Lib.hid rfl⟩
      rw [hln.out] at ms hll hcb
      have RS := Lib.hid rs; clear rs
      have HSL : Hid ((sds bs (L.take i)).length = i) := Lib.hid (by rw [sds_length HC.out.1, HLT.out])
      go_wp2_with fail
      refine (copied_st hln.out (by omega) RS.out).mono ?_
      rintro e w2 ⟨b, rfl, hh⟩
      have h2 := S1.out.call hh; clear hh S1
      try simp only [List.nil_append, List.cons_append, List.append_eq, Int.toNat_natCast] at h2
      have S2 := Lib.hid h2; clear h2
      go_wp2_with (first
        | ((with_reducible refine at_slot (N := 15) rfl ?_); refine bslice_st rfl _ 39 1 _ (cellsV es [⟨some ⟨b, 0, none⟩, ln, ln⟩]) rfl (fun _ => by kernel_rfl) S2.out ?_; intro sb w3 h3; (try simp only [World.size_alloc, List.nil_append, List.cons_append, List.append_eq] at h3); have S3 := Lib.hid h3; clear h3 S2)
        | ((with_reducible refine at_slot (N := 16) rfl ?_); refine append_v (enc := es) (G := G) (N := ents bs (L.take i) ++ [bt b l]) rfl _ _ 22 rfl ⟨none, 0, 0⟩ 24 Try.underlying22 info_sl9 rfl (fun _ => rfl) (.slice A1 i c1) (sds bs (L.take i)) rfl ((S3.out.drop (List.sublist_cons_self _ _)).perm (cons_perm _ _ _)) HC.out.2.2.1 (some ⟨sb, 0, none⟩) 1 1 [⟨some ⟨b, 0, none⟩, ln, ln⟩] rfl rfl (S3.out.rdV (t := 39) mem0) (by rw [HSL.out]; show (i + 1) * 24 ≤ _; omega) (by rw [HSL.out]; show i + 1 ≤ _; unfold maxLen; omega) ?_; intro v9 w4 G2 h4 hg hz; obtain ⟨A2, c2, rfl⟩ := hg.shape; have ez : (sds bs (L.take i) ++ [(⟨some ⟨b, 0, none⟩, ln, ln⟩ : Sd)]).length = i + 1 := (by rw [List.length_append, HSL.out]; rfl); rw [ez] at hg ⊢; have HG := Lib.hid hg; clear hg hz ez; (try simp only [World.size_alloc, List.nil_append, List.cons_append, List.append_eq] at h4); have S4 := Lib.hid h4; clear h4 S3))
      refine ⟨⟨i + 1, A2, c2, bs ++ [b], G2, by omega, by simp, rfl, ⟨by rw [HT.out, List.length_append, List.length_append, HC.out.1]; rfl, by rw [HT.out, List.length_append, HLT.out]; rfl, ?_, fun h => by omega⟩, ?_⟩, ?_⟩
      · have e : sds (bs ++ [b]) (L.take (i + 1)) = sds bs (L.take i) ++ [⟨some ⟨b, 0, none⟩, ln, ln⟩] := by rw [HT.out, sds_snoc HC.out.1, hln.out]
        rw [e]
        exact HG.out
      · have := S4.out
        rw [HT.out, ents_snoc HC.out.1]
        exact this
      · simp [intOf]; omega
    · obtain rfl : i = n := by omega
      have e : L.take i = L := List.take_of_length_le (by rw [HN.out]; exact Nat.le_refl _)
      rw [e] at HC S1
      clear e
      go_wp2_with fail
      go_ret
      exact ⟨A1, c1, bs, G, rfl, HC.out, S1.out⟩

set_option maxRecDepth 100000 in
set_option maxHeartbeats 1000000 in
theorem equal_any {A1 A2 : Option Addr} {m1 m2 c1 c2 : Nat} {l1 l2 : List Nat} {w : World} (hm1 : l1.length = m1) (hm2 : l2.length = m2) (hl : m1 ≤ 281474976710656) (h81 : B8 l1) (h82 : B8 l2) (h1 : Rd w A1 l1) (h2 : Rd w A2 l2) :
    Calls Try.prog 25 #[.slice A1 m1 c1, .slice A2 m2 c2] w fun e w' => e = .returned (.bool (decide (l1 = l2))) ∧ ∃ n, w' = w.drewN n := by
  have H1 := Lib.hid h1; have H2 := Lib.hid h2; have M1 := Lib.hid hm1; have M2 := Lib.hid hm2; have H81 := Lib.hid h81; have H82 := Lib.hid h82
  obtain ⟨B, HB⟩ : ∃ B, Hid (decide (l1 = l2) = B) := ⟨_, Lib.hid rfl⟩
  rw [HB.out]
  clear h1 h2 hm1 hm2 h81 h82
  by_cases hne : m1 ≠ m2
  · have q1 : (m1 == m2) = false := by simpa using hne
    have q2 : (((m1 : Nat) : Int) != ((m2 : Nat) : Int)) = true := by rw [bne_iff_ne]; omega
    have q3 : (m1 != m2) = true := by rw [bne_iff_ne]; exact hne
    have HQ : Hid (B = false) := Lib.hid (by rw [← HB.out, decide_eq_false_iff_not]; intro e; rw [e] at M1; exact hne (M1.out.symm.trans M2.out))
    clear hne
    go_enter Try.func25, Try.ntmps25
    go_wp2
    go_ret
    have hq := HQ.out
    subst hq
    exact ⟨rfl, 0, rfl⟩
  · obtain rfl : m1 = m2 := by omega
    obtain ⟨m, rfl⟩ : ∃ m, m = m1 := ⟨_, rfl⟩
    clear hne
    go_enter Try.func25, Try.ntmps25
    go_wp2
    go_loopw [13] (fun vi wr => ∃ i n : Nat, i ≤ m ∧ vi = .int .i64 i ∧ wr = w.drewN n ∧ l1.take i = l2.take i) (fun vi _ => m - (intOf vi).toNat)
    case atStart => exact ⟨0, 0, by omega, rfl, rfl, rfl⟩
    case round =>
      obtain ⟨i, n, hi, rfl, rfl, ht⟩ := hrel
      have HT := Lib.hid ht; clear ht
      by_cases hlt : i < m
      · obtain ⟨b1, o1, e1, k1⟩ := H1.out (by rw [M1.out]; omega)
        obtain ⟨b2, o2, e2, k2⟩ := H2.out (by rw [M2.out]; omega)
        have x1 := k1 i (by rw [M1.out]; exact hlt)
        have x2 := k2 i (by rw [M2.out]; exact hlt)
        have y1 := H81.out.get (i := i) (by rw [M1.out]; exact hlt)
        have y2 := H82.out.get (i := i) (by rw [M2.out]; exact hlt)
        have HG1 : Hid (l1[i]? = some (l1.getD i 0)) := Lib.hid (by have := M1.out; simp [show i < l1.length by omega])
        have HG2 : Hid (l2[i]? = some (l2.getD i 0)) := Lib.hid (by have := M2.out; simp [show i < l2.length by omega])
        subst e1 e2
        clear k1 k2
        generalize l1.getD i 0 = a at *
        generalize l2.getD i 0 = b at *
        have i1 : (i : Int) < (m : Int) := by omega
        by_cases hab : a = b
        · subst hab
          have HT2 : Hid (l1.take (i + 1) = l2.take (i + 1)) := Lib.hid (by rw [List.take_add_one, List.take_add_one, HT.out, HG1.out, HG2.out])
          clear H1 H2
          go_wp2
          go_quiet (fail)
          go_wp2
          go_roundw
          case rel => exact ⟨i + 1, _, by omega, by go_num, rfl, HT2.out⟩
          case measure => simp [intOf]; omega
        · have q2 : (((a : Nat) : Int) != ((b : Nat) : Int)) = true := by rw [bne_iff_ne]; omega
          have q4 : (((a : Nat) : Int) == ((b : Nat) : Int)) = false := by rw [beq_eq_false_iff_ne]; omega
          have q1 : (a == b) = false := by simpa using hab
          have q3 : (a != b) = true := by rw [bne_iff_ne]; exact hab
          have HQ : Hid (B = false) := Lib.hid (by
            rw [← HB.out, decide_eq_false_iff_not]
            intro e
            have := HG1.out
            rw [e, HG2.out] at this
            injection this with this
            exact hab this.symm)
          clear H1 H2 hab
          go_wp2
          go_quiet (fail)
          go_wp2
          go_ret
          have hq := HQ.out
          subst hq
          exact ⟨rfl, n + nq, by rw [World.drewN_drewN]⟩
      · obtain rfl : i = m := by omega
        have HQ : Hid (B = true) := Lib.hid (by
          rw [← HB.out, decide_eq_true_eq]
          have := HT.out
          rw [List.take_of_length_le (by rw [M1.out]; exact Nat.le_refl _), List.take_of_length_le (by rw [M2.out]; exact Nat.le_refl _)] at this
          exact this)
        clear H1 H2
        go_wp2
        go_ret
        have hq := HQ.out
        subst hq
        exact ⟨rfl, n, rfl⟩

end Go.Proofs.Ytdbfkjhdnbmpeaa.Sk
