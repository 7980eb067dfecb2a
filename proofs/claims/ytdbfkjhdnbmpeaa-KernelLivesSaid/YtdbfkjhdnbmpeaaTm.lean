/- Layer 5 (table): the kernel's Mul, MulAdd, Product and Row. -/
import Derived.Test.YtdbfkjhdnbmpeaaTk
import Derived.Test.YtdbfkjhdnbmpeaaSa
namespace Go.Proofs.Ytdbfkjhdnbmpeaa.Tk
set_option linter.unusedSimpArgs false
set_option linter.unusedVariables false
open Go Go.RowKit Go.Proofs.Ytdbfkjhdnbmpeaa Go.Proofs.Ytdbfkjhdnbmpeaa.Mm Go.Proofs.Ytdbfkjhdnbmpeaa.Gf Go.Proofs.Ytdbfkjhdnbmpeaa.Wr Go.Proofs.Ytdbfkjhdnbmpeaa.Tb Go.Proofs.Ytdbfkjhdnbmpeaa.St

theorem refuses_nil (v1 v2 : Value) (w : World) : Calls Try.prog 72 #[.pointer none, v1, v2] w fun e w' => e = .returned (.int .i64 1) ∧ w = w' := by
  go_enter Try.func72, Try.ntmps72
  go_wp2
  go_ret
  exact ⟨rfl, rfl⟩

theorem refuses_lens (p : Addr) (A1 A2 : Option Addr) (n m c1 c2 : Nat) (w : World) (h : n ≠ m) : Calls Try.prog 72 #[.pointer (some p), .slice A1 n c1, .slice A2 m c2] w fun e w' => e = .returned (.int .i64 6) ∧ w = w' := by
  have h1 : (n == m) = false := by simpa using h
  have h2 : (((n : Nat) : Int) != ((m : Nat) : Int)) = true := by rw [bne_iff_ne]; omega
  have h3 : (n != m) = true := by rw [bne_iff_ne]; exact h
  clear h
  go_enter Try.func72, Try.ntmps72
  go_wp2
  go_ret
  exact ⟨rfl, rfl⟩

theorem refuses_ok (p : Addr) (A1 A2 : Option Addr) (n c1 c2 : Nat) (w : World) : Calls Try.prog 72 #[.pointer (some p), .slice A1 n c1, .slice A2 n c2] w fun e w' => e = .returned (.int .i64 0) ∧ w = w' := by
  go_enter Try.func72, Try.ntmps72
  go_wp2
  go_ret
  exact ⟨rfl, rfl⟩

set_option maxRecDepth 100000 in
set_option maxHeartbeats 2000000 in
theorem mul_at (c kb bd od n cd : Nat) (A : Option Addr) (cs : Nat) (D l : List Nat) (w : World) (hc : c < 256) (hkb : Blk w kb 104 (row .u8 tabL)) (hd : Bytes w bd D) (hne : kb ≠ bd) (hn : od + n ≤ D.length) (hl : l.length = n) (h8 : B8 l) (hD8 : B8 D) (hnm : n ≤ 281474976710656)
    (hs : Rd w A l) (hal : ∀ b o, A = some ⟨b, o, none⟩ → b ≠ bd ∨ od ≤ o) :
    Calls Try.prog 69 #[.pointer (some ⟨kb, 0, none⟩), .int .u8 c, .slice (some ⟨bd, od, none⟩) n cd, .slice A n cs] w fun e w' =>
      e = .returned (.int .i64 0) ∧ St w w' [bt bd (Wr.wr D od (l.map (gm c)))] [] := by
  have HK := Lib.hid hkb; have HD := Lib.hid hd; have HS := Lib.hid hs; have H8 := Lib.hid h8; have HD8 := Lib.hid hD8
  have HN := Lib.hid hn; have HL := Lib.hid hl; have HAL := Lib.hid hal
  have S0 := Lib.hid (St.start1 hd)
  clear hd hs h8 hn hl hal hD8 hkb
  have HVL : Hid ((l.map (gm c)).length = n) := by show _ = _; have := HL.out; simp [this]
  have HVG : Hid (∀ i, i < n → (l.map (gm c)).getD i 0 = gm c (l.getD i 0)) := by
    intro i hi
    have := HL.out
    simp [this, hi]
  generalize l.map (gm c) = vs at *
  go_enter Try.func69, Try.ntmps69
  go_wp2_with fail
  refine (refuses_ok _ _ _ n _ _ _).mono ?_
  rintro e _ ⟨rfl, rfl⟩
  have c0 : (0 : Int) ≤ (c : Int) := by omega
  have c1 : (c : Int) < 256 := by omega
  go_wp2_with fail
  go_loopw [27] (fun vi wq => ∃ i : Nat, i ≤ n ∧ vi = .int .i64 i ∧ St w wq [bt bd (Wr.wr D od (vs.take i))] []) (fun vi _ => n - (intOf vi).toNat)
  case atStart => exact ⟨0, by omega, rfl, S0.out⟩
  case round =>
    clear S0
    obtain ⟨i, hi, rfl, hs⟩ := hrel
    have S1 := Lib.hid hs; clear hs
    by_cases hlt : i < n
    · have hx := H8.out.get (i := i) (by rw [HL.out]; exact hlt)
      obtain ⟨bs, os, eA, hs⟩ := HS.out (by rw [HL.out]; omega)
      have m1 := Nb.src_at HD.out S1.out.but (S1.out.blkW mem0) HVL.out HN.out (HAL.out _ _ eA) (hs i (by rw [HL.out]; exact hlt)) hlt (cell_lt (hs i (by rw [HL.out]; exact hlt)))
      subst eA
      clear hs
      have hlen : od + i < (Wr.wr D od (vs.take i)).length := by rw [wr_length]; have := HN.out; omega
      have m4 := (S1.out.blkW mem0).cellRow (i := od + i) hlen
      have f4 := (S1.out.blkW mem0).free (i := od + i)
      have HV2 := Lib.hid (HVG.out i hlt)
      generalize l.getD i 0 = x at *
      have m2 := (S1.out.keepB HK.out (fun e he => by rw [List.mem_singleton] at he; subst he; exact fun h => hne h.symm)).cellRow (i := c * 256 + x) (by rw [tabL_length]; omega)
      rw [tabL_get hc hx] at m2
      have x0 : (0 : Int) ≤ (x : Int) := by omega
      have x1 : (x : Int) < 256 := by omega
      generalize (Wr.wr D od (vs.take i)).getD (od + i) 0 = y at *
      go_wp2_with fail
      go_roundw
      case rel =>
        refine ⟨i + 1, by omega, by go_num, ?_⟩
        rw [wr_take_succ (by rw [HVL.out]; exact hlt), HV2.out]
        exact S1.out.setRowW (W1 := []) _ _
      case measure => simp [intOf]; omega
    · obtain rfl : i = n := by omega
      rw [List.take_of_length_le (by rw [HVL.out]; exact Nat.le_refl _)] at S1
      go_wp2_with fail
      go_ret
      exact ⟨rfl, S1.out⟩

set_option maxRecDepth 100000 in
set_option maxHeartbeats 2000000 in
theorem add_at (c kb bd od n cd : Nat) (A : Option Addr) (cs : Nat) (D l : List Nat) (w : World) (hc : c < 256) (hkb : Blk w kb 104 (row .u8 tabL)) (hd : Bytes w bd D) (hne : kb ≠ bd) (hn : od + n ≤ D.length) (hl : l.length = n) (h8 : B8 l) (hD8 : B8 D) (hnm : n ≤ 281474976710656)
    (hs : Rd w A l) (hal : ∀ b o, A = some ⟨b, o, none⟩ → b ≠ bd ∨ od ≤ o) :
    Calls Try.prog 70 #[.pointer (some ⟨kb, 0, none⟩), .int .u8 c, .slice (some ⟨bd, od, none⟩) n cd, .slice A n cs] w fun e w' =>
      e = .returned (.int .i64 0) ∧ St w w' [bt bd (Wr.wr D od ((List.range n).map fun i => D.getD (od + i) 0 ^^^ gm c (l.getD i 0)))] [] := by
  have HK := Lib.hid hkb; have HD := Lib.hid hd; have HS := Lib.hid hs; have H8 := Lib.hid h8; have HD8 := Lib.hid hD8
  have HN := Lib.hid hn; have HL := Lib.hid hl; have HAL := Lib.hid hal
  have S0 := Lib.hid (St.start1 hd)
  clear hd hs h8 hn hl hal hD8 hkb
  have HVL : Hid (((List.range n).map fun i => D.getD (od + i) 0 ^^^ gm c (l.getD i 0)).length = n) := by show _ = _; have := HL.out; simp [this]
  have HVG : Hid (∀ i, i < n → ((List.range n).map fun i => D.getD (od + i) 0 ^^^ gm c (l.getD i 0)).getD i 0 = D.getD (od + i) 0 ^^^ gm c (l.getD i 0)) := by
    intro i hi
    have := HL.out
    simp [this, hi]
  generalize ((List.range n).map fun i => D.getD (od + i) 0 ^^^ gm c (l.getD i 0)) = vs at *
  go_enter Try.func70, Try.ntmps70
  go_wp2_with fail
  refine (refuses_ok _ _ _ n _ _ _).mono ?_
  rintro e _ ⟨rfl, rfl⟩
  have c0 : (0 : Int) ≤ (c : Int) := by omega
  have c1 : (c : Int) < 256 := by omega
  go_wp2_with fail
  go_loopw [27] (fun vi wq => ∃ i : Nat, i ≤ n ∧ vi = .int .i64 i ∧ St w wq [bt bd (Wr.wr D od (vs.take i))] []) (fun vi _ => n - (intOf vi).toNat)
  case atStart => exact ⟨0, by omega, rfl, S0.out⟩
  case round =>
    clear S0
    obtain ⟨i, hi, rfl, hs⟩ := hrel
    have S1 := Lib.hid hs; clear hs
    by_cases hlt : i < n
    · have hx := H8.out.get (i := i) (by rw [HL.out]; exact hlt)
      obtain ⟨bs, os, eA, hs⟩ := HS.out (by rw [HL.out]; omega)
      have m1 := Nb.src_at HD.out S1.out.but (S1.out.blkW mem0) HVL.out HN.out (HAL.out _ _ eA) (hs i (by rw [HL.out]; exact hlt)) hlt (cell_lt (hs i (by rw [HL.out]; exact hlt)))
      subst eA
      clear hs
      have hlen : od + i < (Wr.wr D od (vs.take i)).length := by rw [wr_length]; have := HN.out; omega
      have m4 := (S1.out.blkW mem0).cellRow (i := od + i) hlen
      have f4 := (S1.out.blkW mem0).free (i := od + i)
      have hg : (Wr.wr D od (vs.take i)).getD (od + i) 0 = D.getD (od + i) 0 := by
        have h1 := HVL.out
        have h2 := HN.out
        rw [List.getD_eq_getElem?_getD, wr_get _ _ _ _ (by rw [List.length_take, h1]; omega), if_neg (by rw [List.length_take, h1]; omega), ← List.getD_eq_getElem?_getD]
      rw [hg] at m4
      clear hg
      have hy := HD8.out.get (i := od + i) (by have := HN.out; omega)
      have HV2 := Lib.hid (HVG.out i hlt)
      generalize D.getD (od + i) 0 = y at *
      generalize l.getD i 0 = x at *
      have m2 := (S1.out.keepB HK.out (fun e he => by rw [List.mem_singleton] at he; subst he; exact fun h => hne h.symm)).cellRow (i := c * 256 + x) (by rw [tabL_length]; omega)
      rw [tabL_get hc hx] at m2
      have x0 : (0 : Int) ≤ (x : Int) := by omega
      have x1 : (x : Int) < 256 := by omega
      have e3 : Go.bits .xor .u8 (y : Int) ((gm c x : Nat) : Int) = ((y ^^^ gm c x : Nat) : Int) := Bt.xor8 hy (gm_lt _ hc)
      go_wp2_with fail
      go_region
      go_wp2_with fail
      go_roundw
      case rel =>
        refine ⟨i + 1, by omega, by go_num, ?_⟩
        rw [wr_take_succ (by rw [HVL.out]; exact hlt), HV2.out]
        exact (S1.out.setRowW (W1 := []) _ _).drew
      case measure => simp [intOf]; omega
    · obtain rfl : i = n := by omega
      rw [List.take_of_length_le (by rw [HVL.out]; exact Nat.le_refl _)] at S1
      go_wp2_with fail
      go_ret
      exact ⟨rfl, S1.out⟩

end Go.Proofs.Ytdbfkjhdnbmpeaa.Tk
