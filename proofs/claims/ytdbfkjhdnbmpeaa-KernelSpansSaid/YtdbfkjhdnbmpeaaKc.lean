/- Layer 9: all; Xor; within; fits. -/
import Derived.Test.YtdbfkjhdnbmpeaaKb
namespace Go.Proofs.Ytdbfkjhdnbmpeaa.Sk
set_option linter.unusedSimpArgs false
set_option linter.unusedVariables false
open Go Go.RowKit Go.Proofs.Ytdbfkjhdnbmpeaa Go.Proofs.Ytdbfkjhdnbmpeaa.Mm Go.Proofs.Ytdbfkjhdnbmpeaa.Gf Go.Proofs.Ytdbfkjhdnbmpeaa.Wr Go.Proofs.Ytdbfkjhdnbmpeaa.Nb Go.Proofs.Ytdbfkjhdnbmpeaa.St

/-- All lists are lists of bytes. -/
def B8L (L : List (List Nat)) : Prop := ∀ l ∈ L, B8 l
theorem B8L.get {L : List (List Nat)} (h : B8L L) (i : Nat) : B8 (L.getD i []) := by
  by_cases hi : i < L.length
  · have e : L.getD i [] = L[i] := by simp [hi]
    rw [e]; exact h _ (List.getElem_mem _)
  · simp [hi]; exact fun x hx => by simp at hx
theorem Bool.two (b : Bool) : b = true ∨ b = false := by cases b <;> simp

set_option maxRecDepth 100000 in
set_option maxHeartbeats 2000000 in
theorem all_any {A1 A2 : Option Addr} {m1 m2 c1 c2 : Nat} {L1 L2 : List (List Nat)} {w : World} (hm1 : L1.length = m1) (hm2 : L2.length = m2) (hf1 : Fit L1) (hf2 : Fit L2) (h81 : B8L L1) (h82 : B8L L2) (h1 : RdL w [] A1 L1) (h2 : RdL w [] A2 L2) :
    Calls Try.prog 20 #[.slice A1 m1 c1, .slice A2 m2 c2] w fun e w' => e = .returned (.bool (decide (L1 = L2))) ∧ ∃ n, w' = w.drewN n := by
  have H1 := Lib.hid h1; have H2 := Lib.hid h2; have M1 := Lib.hid hm1; have M2 := Lib.hid hm2; have H81 := Lib.hid h81; have H82 := Lib.hid h82; have F1 := Lib.hid hf1; have F2 := Lib.hid hf2
  have hb : m1 ≤ 140737488351232 := by have := hf1.1; omega
  obtain ⟨B, HB⟩ : ∃ B, Hid (decide (L1 = L2) = B) := ⟨_, Lib.hid rfl⟩
  rw [HB.out]
  clear h1 h2 hm1 hm2 h81 h82 hf1 hf2
  by_cases hne : m1 ≠ m2
  · have q1 : (m1 == m2) = false := by simpa using hne
    have q2 : (((m1 : Nat) : Int) != ((m2 : Nat) : Int)) = true := by rw [bne_iff_ne]; omega
    have q3 : (m1 != m2) = true := by rw [bne_iff_ne]; exact hne
    have HQ : Hid (B = false) := Lib.hid (by rw [← HB.out, decide_eq_false_iff_not]; intro e; rw [e] at M1; exact hne (M1.out.symm.trans M2.out))
    clear hne
    go_enter Try.func20, Try.ntmps20
    go_wp2
    go_ret
    have hq := HQ.out
    subst hq
    exact ⟨rfl, 0, rfl⟩
  · obtain rfl : m1 = m2 := by omega
    obtain ⟨m, rfl⟩ : ∃ m, m = m1 := ⟨_, rfl⟩
    clear hne
    go_enter Try.func20, Try.ntmps20
    go_wp2
    go_loopw [13] (fun vi wr => ∃ i : Nat, i ≤ m ∧ vi = .int .i64 i ∧ (∃ n, wr = w.drewN n) ∧ L1.take i = L2.take i) (fun vi _ => m - (intOf vi).toNat)
    case atStart => exact ⟨0, by omega, rfl, ⟨0, rfl⟩, rfl⟩
    case round =>
      obtain ⟨i, hi, rfl, hw, ht⟩ := hrel
      have HT := Lib.hid ht; clear ht
      have HW := Lib.hid hw; clear hw
      by_cases hlt : i < m
      · have R1 : RdL wr [] A1 L1 := by obtain ⟨n, e⟩ := HW.out; rw [e]; exact H1.out
        have R2 : RdL wr [] A2 L2 := by obtain ⟨n, e⟩ := HW.out; rw [e]; exact H2.out
        obtain ⟨b1, o1, B1, d1, e1, x1, g1, r1, _⟩ := R1.at (i := i) (by rw [M1.out]; omega)
        obtain ⟨b2, o2, B2, d2, e2, x2, g2, r2, _⟩ := R2.at (i := i) (by rw [M2.out]; omega)
        have HG1 : Hid (L1[i]? = some (L1.getD i [])) := Lib.hid (by have := M1.out; simp [show i < L1.length by omega])
        have HG2 : Hid (L2[i]? = some (L2.getD i [])) := Lib.hid (by have := M2.out; simp [show i < L2.length by omega])
        have HE := Lib.hid (fun k : Nat => equal_any (c1 := d1) (c2 := d2) (w := wr.drewN k) rfl rfl (by have := F1.out.get i; omega) (H81.out.get i) (H82.out.get i) r1 r2)
        subst e1 e2
        clear r1 r2 R1 R2 g1 g2
        generalize L1.getD i [] = a at *
        generalize L2.getD i [] = b at *
        obtain ⟨n1, hn1⟩ : ∃ n1, Hid (a.length = n1) := ⟨_, Lib.hid rfl⟩
        obtain ⟨n2, hn2⟩ : ∃ n2, Hid (b.length = n2) := ⟨_, Lib.hid rfl⟩
        obtain ⟨q, hq⟩ : ∃ q, Hid (decide (a = b) = q) := ⟨_, Lib.hid rfl⟩
        rw [hn1.out, hn2.out, hq.out] at HE
        rw [hn1.out] at x1
        rw [hn2.out] at x2
        have i1 : (i : Int) < (m : Int) := by omega
        clear H1 H2
        rcases Bool.two q with rfl | rfl
        · have hab := of_decide_eq_true hq.out
          have HT2 : Hid (L1.take (i + 1) = L2.take (i + 1)) := Lib.hid (by rw [List.take_add_one, List.take_add_one, HT.out, HG1.out, HG2.out, hab])
          clear hab
          go_wp2
          go_quiet (((with_reducible exact Calls.quiet_of (HE.out _))))
          go_wp2
          go_roundw
          case rel => exact ⟨i + 1, by omega, by go_num, by obtain ⟨n, e⟩ := HW.out; exact ⟨n + nq, by rw [e, World.drewN_drewN]⟩, HT2.out⟩
          case measure => simp [intOf]; omega
        · have hab := of_decide_eq_false hq.out
          have HQ : Hid (B = false) := Lib.hid (by
            rw [← HB.out, decide_eq_false_iff_not]
            intro e
            have := HG1.out
            rw [e, HG2.out] at this
            injection this with this
            exact hab this.symm)
          clear hab
          go_wp2
          go_quiet (((with_reducible exact Calls.quiet_of (HE.out _))))
          go_wp2
          go_ret
          have hq2 := HQ.out
          subst hq2
          exact ⟨rfl, by obtain ⟨n, e⟩ := HW.out; exact ⟨n + nq, by rw [e, World.drewN_drewN]⟩⟩
      · obtain rfl : i = m := by omega
        have HQ : Hid (B = true) := Lib.hid (by
          rw [← HB.out, decide_eq_true_eq]
          have := HT.out
          rw [List.take_of_length_le (by rw [M1.out]; exact Nat.le_refl _), List.take_of_length_le (by rw [M2.out]; exact Nat.le_refl _)] at this
          exact this)
        clear H1 H2
        go_wp2
        go_ret
        have hq := HQ.out
        subst hq
        exact ⟨rfl, HW.out⟩

theorem xor_lens (A1 A2 : Option Addr) (n m c1 c2 : Nat) (w : World) (h : n ≠ m) : Calls Try.prog 22 #[.slice A1 n c1, .slice A2 m c2] w fun e w' => e = .returned (.int .i64 6) ∧ w = w' := by
  have h1 : (n == m) = false := by simpa using h
  have h2 : (((n : Nat) : Int) != ((m : Nat) : Int)) = true := by rw [bne_iff_ne]; omega
  have h3 : (n != m) = true := by rw [bne_iff_ne]; exact h
  clear h
  go_enter Try.func22, Try.ntmps22
  go_wp2
  go_ret
  exact ⟨rfl, rfl⟩

set_option maxRecDepth 100000 in
set_option maxHeartbeats 2000000 in
theorem xor_at {bd od n cd : Nat} {A : Option Addr} {cs : Nat} {D l : List Nat} {w : World} (hd : Bytes w bd D) (hn : od + n ≤ D.length) (hl : l.length = n) (h8 : B8 l) (hD8 : B8 D) (hnm : n ≤ 281474976710656) (hs : SrcK w bd od A D l) :
    Calls Try.prog 22 #[.slice (some ⟨bd, od, none⟩) n cd, .slice A n cs] w fun e w' => e = .returned (.int .i64 0) ∧ St w w' [bt bd (Wr.wr D od ((List.range n).map fun i => D.getD (od + i) 0 ^^^ l.getD i 0))] [] := by
  have HD := Lib.hid hd; have HS := Lib.hid (hs.rd hd (by omega)); have H8 := Lib.hid h8; have HD8 := Lib.hid hD8
  have HN := Lib.hid hn; have HL := Lib.hid hl; have HAL := Lib.hid hs.al
  have S0 := Lib.hid (St.start1 hd)
  clear hd hs h8 hn hl hD8
  have HVL : Hid (((List.range n).map fun i => D.getD (od + i) 0 ^^^ l.getD i 0).length = n) := Lib.hid (by simp)
  have HVG : Hid (∀ i, i < n → ((List.range n).map fun i => D.getD (od + i) 0 ^^^ l.getD i 0).getD i 0 = D.getD (od + i) 0 ^^^ l.getD i 0) := Lib.hid (by
    intro i hi
    simp [hi])
  generalize ((List.range n).map fun i => D.getD (od + i) 0 ^^^ l.getD i 0) = vs at *
  go_enter Try.func22, Try.ntmps22
  go_wp2_with fail
  go_loopw [14] (fun vi wq => ∃ i : Nat, i ≤ n ∧ vi = .int .i64 i ∧ St w wq [bt bd (Wr.wr D od (vs.take i))] []) (fun vi _ => n - (intOf vi).toNat)
  case atStart => exact ⟨0, by omega, rfl, S0.out⟩
  case round =>
    clear S0
    obtain ⟨i, hi, rfl, hs⟩ := hrel
    have S1 := Lib.hid hs; clear hs
    by_cases hlt : i < n
    · have hx := H8.out.get (i := i) (by rw [HL.out]; exact hlt)
      obtain ⟨bs, os, eA, hs⟩ := HS.out (by rw [HL.out]; omega)
      have m1 := Nb.src_at HD.out S1.out.but (S1.out.blkW mem0) HVL.out HN.out (HAL.out _ _ eA) (hs i (by rw [HL.out]; exact hlt)) hlt (cell_lt (hs i (by rw [HL.out]; exact hlt)))
      subst eA
      clear hs
      have hlen : od + i < (Wr.wr D od (vs.take i)).length := by rw [wr_length]; have := HN.out; omega
      have m4 := (S1.out.blkW mem0).cellRow (i := od + i) hlen
      have f4 := (S1.out.blkW mem0).free (i := od + i)
      have hg : (Wr.wr D od (vs.take i)).getD (od + i) 0 = D.getD (od + i) 0 := by
        have h1 := HVL.out
        have h2 := HN.out
        rw [List.getD_eq_getElem?_getD, wr_get _ _ _ _ (by rw [List.length_take, h1]; omega), if_neg (by rw [List.length_take, h1]; omega), ← List.getD_eq_getElem?_getD]
      rw [hg] at m4
      clear hg
      have hy := HD8.out.get (i := od + i) (by have := HN.out; omega)
      have HV2 := Lib.hid (HVG.out i hlt)
      generalize D.getD (od + i) 0 = y at *
      generalize l.getD i 0 = x at *
      have e3 : Go.bits .xor .u8 (y : Int) (x : Int) = ((y ^^^ x : Nat) : Int) := Bt.xor8 hy hx
      go_wp2_with fail
      go_roundw
      case rel =>
        refine ⟨i + 1, by omega, by go_num, ?_⟩
        rw [wr_take_succ (by rw [HVL.out]; exact hlt), HV2.out]
        exact S1.out.setRowW (W1 := []) _ _
      case measure => simp [intOf]; omega
    · obtain rfl : i = n := by omega
      rw [List.take_of_length_le (by rw [HVL.out]; exact Nat.le_refl _)] at S1
      go_wp2_with fail
      go_ret
      exact ⟨rfl, S1.out⟩

/-- Is the span within the length? -/
def rngE (f t n : Int) : Int := if 0 ≤ f ∧ f ≤ t ∧ t ≤ n then 0 else 7
set_option maxRecDepth 100000 in
theorem within_st (f t n : Int) (w : World) : Calls Try.prog 35 #[.agg #[.int .i64 f, .int .i64 t], .int .i64 n] w fun e w' => e = .returned (.int .i64 (rngE f t n)) ∧ St w w' [] [] := by
  have S0 := Lib.hid ((St.start w).alloc 32 #[.int .i64 f, .int .i64 t]).nil
  obtain ⟨r, HR⟩ : ∃ r, Hid (rngE f t n = r) := ⟨_, Lib.hid rfl⟩
  rw [HR.out]
  by_cases h1 : f < 0
  · have q1 : decide (f < 0) = true := by simpa using h1
    have HQ : Hid (r = 7) := Lib.hid (by rw [← HR.out]; unfold rngE; rw [if_neg (by omega)])
    clear h1
    go_enter Try.func35, Try.ntmps35
    go_wp2
    go_ret
    have hq := HQ.out
    subst hq
    exact ⟨rfl, S0.out⟩
  · have q1 : decide (f < 0) = false := by simpa using h1
    by_cases h2 : t < f
    · have q2 : decide (t < f) = true := by simpa using h2
      have HQ : Hid (r = 7) := Lib.hid (by rw [← HR.out]; unfold rngE; rw [if_neg (by omega)])
      clear h1 h2
      go_enter Try.func35, Try.ntmps35
      go_wp2
      go_ret
      have hq := HQ.out
      subst hq
      exact ⟨rfl, S0.out⟩
    · have q2 : decide (t < f) = false := by simpa using h2
      by_cases h3 : t > n
      · have q3 : decide (n < t) = true := by simpa using h3
        have HQ : Hid (r = 7) := Lib.hid (by rw [← HR.out]; unfold rngE; rw [if_neg (by omega)])
        clear h1 h2 h3
        go_enter Try.func35, Try.ntmps35
        go_wp2
        go_ret
        have hq := HQ.out
        subst hq
        exact ⟨rfl, S0.out⟩
      · have q3 : decide (n < t) = false := by simpa using h3
        have HQ : Hid (r = 0) := Lib.hid (by rw [← HR.out]; unfold rngE; rw [if_pos (by omega)])
        clear h1 h2 h3
        go_enter Try.func35, Try.ntmps35
        go_wp2
        go_ret
        have hq := HQ.out
        subst hq
        exact ⟨rfl, S0.out⟩

end Go.Proofs.Ytdbfkjhdnbmpeaa.Sk
