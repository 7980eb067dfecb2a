/- Layer 6 (nibble): the kernel's Mul and MulAdd: each one's contract, by its walk. -/
import Derived.Test.YtdbfkjhdnbmpeaaNb
import Derived.Test.YtdbfkjhdnbmpeaaSa
namespace Go.Proofs.Ytdbfkjhdnbmpeaa.Nb
set_option linter.unusedSimpArgs false
set_option linter.unusedVariables false
open Go Go.RowKit Go.Proofs.Ytdbfkjhdnbmpeaa Go.Proofs.Ytdbfkjhdnbmpeaa.Mm Go.Proofs.Ytdbfkjhdnbmpeaa.Gf Go.Proofs.Ytdbfkjhdnbmpeaa.Wr

theorem new_calls (w : World) : Calls Try.prog 41 #[] w fun e w' => e = .returned (.pointer (some ⟨w.heap.size, 0, none⟩)) ∧ Below w.heap.size w w' := by
  go_enter Try.func41, Try.ntmps41
  go_wp2
  go_ret
  exact ⟨rfl, (Below.refl _ _).alloc (Nat.le_refl _) _⟩

theorem mul_nil (c : Int) (v1 v2 : Value) (w : World) : Calls Try.prog 73 #[.pointer none, .int .u8 c, v1, v2] w fun e w' => e = .returned (.int .i64 1) ∧ w = w' := by
  go_enter Try.func73, Try.ntmps73
  go_wp2
  go_ret
  exact ⟨rfl, rfl⟩

theorem add_nil (c : Int) (v1 v2 : Value) (w : World) : Calls Try.prog 74 #[.pointer none, .int .u8 c, v1, v2] w fun e w' => e = .returned (.int .i64 1) ∧ w = w' := by
  go_enter Try.func74, Try.ntmps74
  go_wp2
  go_ret
  exact ⟨rfl, rfl⟩

theorem mul_lens (p : Addr) (c : Int) (A1 A2 : Option Addr) (n m c1 c2 : Nat) (w : World) (h : n ≠ m) : Calls Try.prog 73 #[.pointer (some p), .int .u8 c, .slice A1 n c1, .slice A2 m c2] w fun e w' => e = .returned (.int .i64 6) ∧ w = w' := by
  have h1 : (n == m) = false := by simpa using h
  have h2 : (((n : Nat) : Int) != ((m : Nat) : Int)) = true := by rw [bne_iff_ne]; omega
  have h3 : (n != m) = true := by rw [bne_iff_ne]; exact h
  clear h
  go_enter Try.func73, Try.ntmps73
  go_wp2
  go_ret
  exact ⟨rfl, rfl⟩

theorem add_lens (p : Addr) (c : Int) (A1 A2 : Option Addr) (n m c1 c2 : Nat) (w : World) (h : n ≠ m) : Calls Try.prog 74 #[.pointer (some p), .int .u8 c, .slice A1 n c1, .slice A2 m c2] w fun e w' => e = .returned (.int .i64 6) ∧ w = w' := by
  have h1 : (n == m) = false := by simpa using h
  have h2 : (((n : Nat) : Int) != ((m : Nat) : Int)) = true := by rw [bne_iff_ne]; omega
  have h3 : (n != m) = true := by rw [bne_iff_ne]; exact h
  clear h
  go_enter Try.func74, Try.ntmps74
  go_wp2
  go_ret
  exact ⟨rfl, rfl⟩

set_option maxRecDepth 100000 in
set_option maxHeartbeats 2000000 in
theorem mul_calls (p : Addr) (c bd od n cd : Nat) (A : Option Addr) (cs : Nat) (D l : List Nat) (w : World) (hc : c < 256) (hd : Bytes w bd D) (hn : od + n ≤ D.length) (hl : l.length = n) (h8 : B8 l) (hD8 : B8 D) (hnm : n ≤ 9223372036854775807)
    (hs : Rd w A l) (hal : ∀ b o, A = some ⟨b, o, none⟩ → b ≠ bd ∨ od ≤ o) :
    Calls Try.prog 73 #[.pointer (some p), .int .u8 c, .slice (some ⟨bd, od, none⟩) n cd, .slice A n cs] w fun e w' =>
      e = .returned (.int .i64 0) ∧ Bytes w' bd (Wr.wr D od (l.map (gm c))) ∧ But bd w w' := by
  have hbd := hd.lt
  have HD := Lib.hid hd; have HS := Lib.hid hs; have H8 := Lib.hid h8; have HD8 := Lib.hid hD8
  have HN := Lib.hid hn; have HL := Lib.hid hl; have HAL := Lib.hid hal
  clear hd hs h8 hn hl hal hD8
  have HVL : Hid ((l.map (gm c)).length = n) := by show _ = _; have := HL.out; simp [this]
  have HVG : Hid (∀ i, i < n → (l.map (gm c)).getD i 0 = gm c (l.getD i 0)) := by
    intro i hi
    have := HL.out
    simp [this, hi]
  generalize l.map (gm c) = vs at *
  go_enter Try.func73, Try.ntmps73
  go_wp2_with fail
  refine (halves_calls c _ hc).mono ?_
  rintro e w1 ⟨rfl, hb1⟩
  have z1 := hb1.size
  have HB1 := Lib.hid hb1
  clear hb1
  go_wp2_with (first
    | ((with_reducible refine at_slot (N := 9) rfl ?_); refine ev rfl (alloc_run _ (.agg (Array.replicate 16 (.int .u8 0))) (row .u8 (List.replicate 16 0)) rfl (by kernel_rfl) rfl) ?_)
    | ((with_reducible refine at_slot (N := 10) rfl ?_); refine ev rfl (alloc_run _ (.agg (Array.replicate 16 (.int .u8 0))) (row .u8 (List.replicate 16 0)) rfl (by kernel_rfl) rfl) ?_)
    | ((with_reducible refine at_store (p := 9) rfl ?_); refine store_blk rfl _ _ _ rfl w1.heap.size (row .u8 (lowL c)) rfl rfl _ _ (Blk.alloc _ (Blk.new w1 _ _)) (by rw [row_size, lowL_length]; kernel_rfl) (by rw [row_size, row_size, lowL_length]; rfl) (row_all _ _) ?_; intro w2 hs2 hk2; have HS2 := Lib.hid hs2; have HK2 := Lib.hid hk2; clear hs2 hk2)
    | ((with_reducible refine at_store (p := 10) rfl ?_); refine store_blk rfl _ _ _ rfl (w1.heap.size + 1) (row .u8 (highL c)) (by simp [go_sem]) rfl _ _ (HK2.out.blk (blk_second w1 _ _ _) (by omega)) (by rw [row_size, highL_length]; kernel_rfl) (by rw [row_size, row_size, highL_length]; rfl) (row_all _ _) ?_; intro w3 hs3 hk3; have HS3 := Lib.hid hs3; have HK3 := Lib.hid hk3; clear hs3 hk3))
  have HLO := Lib.hid (HK3.out.blk HS2.out (by omega))
  have hb3 : Below w.heap.size w w3 := (((HB1.out.alloc z1 _).alloc (by simp; omega) _).trans (HK2.out.below z1 (by simp; omega))).trans (HK3.out.below (by omega) (by have := HK2.out.size; simp at this; omega))
  have HB3 := Lib.hid hb3
  have z3 := hb3.size
  clear hb3
  go_loopw [27] (fun vi wq => ∃ i : Nat, i ≤ n ∧ vi = .int .i64 i ∧ Bytes wq bd (Wr.wr D od (vs.take i)) ∧ Arr16 wq w1.heap.size (lowL c) ∧ Arr16 wq (w1.heap.size + 1) (highL c) ∧ But bd w wq) (fun vi _ => n - (intOf vi).toNat)
  case atStart => exact ⟨0, by omega, rfl, HD.out.below HB3.out hbd, HLO.out, HS3.out, But.of_below HB3.out⟩
  case round =>
    clear HLO HS3 HS2 HK2 HK3 HB3 HB1
    obtain ⟨i, hi, rfl, hw, hlo, hhi, hk⟩ := hrel
    by_cases hlt : i < n
    · have hx := H8.out.get (i := i) (by rw [HL.out]; exact hlt)
      obtain ⟨bs, os, eA, hs⟩ := HS.out (by rw [HL.out]; omega)
      have m1 := src_at HD.out hk hw HVL.out HN.out (HAL.out _ _ eA) (hs i (by rw [HL.out]; exact hlt)) hlt (cell_lt (hs i (by rw [HL.out]; exact hlt)))
      subst eA
      clear hs
      have hlen : od + i < (Wr.wr D od (vs.take i)).length := by rw [wr_length]; have := HN.out; omega
      have m4 := hw.cellRow (i := od + i) hlen
      have f4 := hw.free (i := od + i)
      have HV2 := Lib.hid (HVG.out i hlt)
      generalize l.getD i 0 = x at *
      have m2 := hlo.cellRow (i := x % 16) (by rw [lowL_length]; omega)
      have m3 := hhi.cellRow (i := x / 16) (by rw [highL_length]; omega)
      rw [lowL_get (by omega)] at m2
      rw [highL_get (by omega)] at m3
      have e1 : Go.bits .and .u8 (x : Int) 15 = (x : Int) % 16 := u8_and15 (x : Int) (by omega) (by omega)
      have e2 : Go.bits .xor .u8 ((gm c (x % 16) : Nat) : Int) ((gm c (16 * (x / 16)) : Nat) : Int) = ((gm c x : Nat) : Int) := by
        rw [Bt.xor8 (gm_lt _ hc) (gm_lt _ hc), halves_sum hx]
      have s1 : 0 ≤ (x : Int) % 16 := by omega
      have s2 : (x : Int) % 16 < 16 := by omega
      have s3 : ((x : Int) % 16).toNat = x % 16 := by omega
      have s4 : 0 ≤ (x : Int) / 16 := by omega
      have s5 : (x : Int) / 16 < 16 := by omega
      have s6 : ((x : Int) / 16).toNat = x / 16 := by omega
      have HW := Lib.hid hw; have HLO := Lib.hid hlo; have HHI := Lib.hid hhi; have HK := Lib.hid hk
      clear hw hlo hhi hk
      go_wp2_with fail
      go_region
      go_wp2_with fail
      go_roundw
      case rel =>
        have hne1 : w1.heap.size ≠ bd := by omega
        have hne2 : w1.heap.size + 1 ≠ bd := by omega
        refine ⟨i + 1, by omega, by go_num, ?_, (HLO.out.set_other _ hne1).drew, (HHI.out.set_other _ hne2).drew, (HK.out.setCell (.inl rfl) _).drew⟩
        rw [wr_take_succ (by rw [HVL.out]; exact hlt), HV2.out]
        exact (HW.out.setRow _ _).drew
      case measure => simp [intOf]; omega
    · obtain rfl : i = n := by omega
      rw [List.take_of_length_le (by rw [HVL.out]; exact Nat.le_refl _)] at hw
      go_wp2_with fail
      go_ret
      exact ⟨rfl, hw, hk⟩

set_option maxRecDepth 100000 in
set_option maxHeartbeats 2000000 in
theorem add_calls (p : Addr) (c bd od n cd : Nat) (A : Option Addr) (cs : Nat) (D l : List Nat) (w : World) (hc : c < 256) (hd : Bytes w bd D) (hn : od + n ≤ D.length) (hl : l.length = n) (h8 : B8 l) (hD8 : B8 D) (hnm : n ≤ 9223372036854775807)
    (hs : Rd w A l) (hal : ∀ b o, A = some ⟨b, o, none⟩ → b ≠ bd ∨ od ≤ o) :
    Calls Try.prog 74 #[.pointer (some p), .int .u8 c, .slice (some ⟨bd, od, none⟩) n cd, .slice A n cs] w fun e w' =>
      e = .returned (.int .i64 0) ∧ Bytes w' bd (Wr.wr D od ((List.range n).map fun i => D.getD (od + i) 0 ^^^ gm c (l.getD i 0))) ∧ But bd w w' := by
  have hbd := hd.lt
  have HD := Lib.hid hd; have HS := Lib.hid hs; have H8 := Lib.hid h8; have HD8 := Lib.hid hD8
  have HN := Lib.hid hn; have HL := Lib.hid hl; have HAL := Lib.hid hal
  clear hd hs h8 hn hl hal hD8
  have HVL : Hid (((List.range n).map fun i => D.getD (od + i) 0 ^^^ gm c (l.getD i 0)).length = n) := by show _ = _; simp
  have HVG : Hid (∀ i, i < n → ((List.range n).map fun i => D.getD (od + i) 0 ^^^ gm c (l.getD i 0)).getD i 0 = D.getD (od + i) 0 ^^^ gm c (l.getD i 0)) := by
    intro i hi
    simp [hi]
  generalize ((List.range n).map fun i => D.getD (od + i) 0 ^^^ gm c (l.getD i 0)) = vs at *
  go_enter Try.func74, Try.ntmps74
  go_wp2_with fail
  refine (halves_calls c _ hc).mono ?_
  rintro e w1 ⟨rfl, hb1⟩
  have z1 := hb1.size
  have HB1 := Lib.hid hb1
  clear hb1
  go_wp2_with (first
    | ((with_reducible refine at_slot (N := 9) rfl ?_); refine ev rfl (alloc_run _ (.agg (Array.replicate 16 (.int .u8 0))) (row .u8 (List.replicate 16 0)) rfl (by kernel_rfl) rfl) ?_)
    | ((with_reducible refine at_slot (N := 10) rfl ?_); refine ev rfl (alloc_run _ (.agg (Array.replicate 16 (.int .u8 0))) (row .u8 (List.replicate 16 0)) rfl (by kernel_rfl) rfl) ?_)
    | ((with_reducible refine at_store (p := 9) rfl ?_); refine store_blk rfl _ _ _ rfl w1.heap.size (row .u8 (lowL c)) rfl rfl _ _ (Blk.alloc _ (Blk.new w1 _ _)) (by rw [row_size, lowL_length]; kernel_rfl) (by rw [row_size, row_size, lowL_length]; rfl) (row_all _ _) ?_; intro w2 hs2 hk2; have HS2 := Lib.hid hs2; have HK2 := Lib.hid hk2; clear hs2 hk2)
    | ((with_reducible refine at_store (p := 10) rfl ?_); refine store_blk rfl _ _ _ rfl (w1.heap.size + 1) (row .u8 (highL c)) (by simp [go_sem]) rfl _ _ (HK2.out.blk (blk_second w1 _ _ _) (by omega)) (by rw [row_size, highL_length]; kernel_rfl) (by rw [row_size, row_size, highL_length]; rfl) (row_all _ _) ?_; intro w3 hs3 hk3; have HS3 := Lib.hid hs3; have HK3 := Lib.hid hk3; clear hs3 hk3))
  have HLO := Lib.hid (HK3.out.blk HS2.out (by omega))
  have hb3 : Below w.heap.size w w3 := (((HB1.out.alloc z1 _).alloc (by simp; omega) _).trans (HK2.out.below z1 (by simp; omega))).trans (HK3.out.below (by omega) (by have := HK2.out.size; simp at this; omega))
  have HB3 := Lib.hid hb3
  have z3 := hb3.size
  clear hb3
  go_loopw [27] (fun vi wq => ∃ i : Nat, i ≤ n ∧ vi = .int .i64 i ∧ Bytes wq bd (Wr.wr D od (vs.take i)) ∧ Arr16 wq w1.heap.size (lowL c) ∧ Arr16 wq (w1.heap.size + 1) (highL c) ∧ But bd w wq) (fun vi _ => n - (intOf vi).toNat)
  case atStart => exact ⟨0, by omega, rfl, HD.out.below HB3.out hbd, HLO.out, HS3.out, But.of_below HB3.out⟩
  case round =>
    clear HLO HS3 HS2 HK2 HK3 HB3 HB1
    obtain ⟨i, hi, rfl, hw, hlo, hhi, hk⟩ := hrel
    by_cases hlt : i < n
    · have hx := H8.out.get (i := i) (by rw [HL.out]; exact hlt)
      obtain ⟨bs, os, eA, hs⟩ := HS.out (by rw [HL.out]; omega)
      have m1 := src_at HD.out hk hw HVL.out HN.out (HAL.out _ _ eA) (hs i (by rw [HL.out]; exact hlt)) hlt (cell_lt (hs i (by rw [HL.out]; exact hlt)))
      subst eA
      clear hs
      have hlen : od + i < (Wr.wr D od (vs.take i)).length := by rw [wr_length]; have := HN.out; omega
      have m4 := hw.cellRow (i := od + i) hlen
      have f4 := hw.free (i := od + i)
      have hg : (Wr.wr D od (vs.take i)).getD (od + i) 0 = D.getD (od + i) 0 := by
        have h1 := HVL.out
        have h2 := HN.out
        rw [List.getD_eq_getElem?_getD, wr_get _ _ _ _ (by rw [List.length_take, h1]; omega), if_neg (by rw [List.length_take, h1]; omega), ← List.getD_eq_getElem?_getD]
      rw [hg] at m4
      clear hg
      have hy := HD8.out.get (i := od + i) (by have := HN.out; omega)
      have HV2 := Lib.hid (HVG.out i hlt)
      generalize D.getD (od + i) 0 = y at *
      generalize l.getD i 0 = x at *
      have m2 := hlo.cellRow (i := x % 16) (by rw [lowL_length]; omega)
      have m3 := hhi.cellRow (i := x / 16) (by rw [highL_length]; omega)
      rw [lowL_get (by omega)] at m2
      rw [highL_get (by omega)] at m3
      have e1 : Go.bits .and .u8 (x : Int) 15 = (x : Int) % 16 := u8_and15 (x : Int) (by omega) (by omega)
      have e2 : Go.bits .xor .u8 ((gm c (x % 16) : Nat) : Int) ((gm c (16 * (x / 16)) : Nat) : Int) = ((gm c x : Nat) : Int) := by
        rw [Bt.xor8 (gm_lt _ hc) (gm_lt _ hc), halves_sum hx]
      have e3 : Go.bits .xor .u8 (y : Int) ((gm c x : Nat) : Int) = ((y ^^^ gm c x : Nat) : Int) := Bt.xor8 hy (gm_lt _ hc)
      have s1 : 0 ≤ (x : Int) % 16 := by omega
      have s2 : (x : Int) % 16 < 16 := by omega
      have s3 : ((x : Int) % 16).toNat = x % 16 := by omega
      have s4 : 0 ≤ (x : Int) / 16 := by omega
      have s5 : (x : Int) / 16 < 16 := by omega
      have s6 : ((x : Int) / 16).toNat = x / 16 := by omega
      have HW := Lib.hid hw; have HLO := Lib.hid hlo; have HHI := Lib.hid hhi; have HK := Lib.hid hk
      clear hw hlo hhi hk
      go_wp2_with fail
      go_region
      go_wp2_with fail
      go_roundw
      case rel =>
        have hne1 : w1.heap.size ≠ bd := by omega
        have hne2 : w1.heap.size + 1 ≠ bd := by omega
        refine ⟨i + 1, by omega, by go_num, ?_, (HLO.out.set_other _ hne1).drew, (HHI.out.set_other _ hne2).drew, (HK.out.setCell (.inl rfl) _).drew⟩
        rw [wr_take_succ (by rw [HVL.out]; exact hlt), HV2.out]
        exact (HW.out.setRow _ _).drew
      case measure => simp [intOf]; omega
    · obtain rfl : i = n := by omega
      rw [List.take_of_length_le (by rw [HVL.out]; exact Nat.le_refl _)] at hw
      go_wp2_with fail
      go_ret
      exact ⟨rfl, hw, hk⟩

/-- The same at a factor as the call has it. -/
theorem mul_any (p : Addr) (c : Int) (bd od n cd bs os cs : Nat) (D l : List Nat) (w : World) (hc0 : 0 ≤ c) (hc : c < 256) (hd : Bytes w bd D) (hn : od + n ≤ D.length) (hl : l.length = n) (h8 : B8 l) (hD8 : B8 D) (hnm : n ≤ 9223372036854775807)
    (hs : ∀ i, i < n → w.cell? ⟨bs, os + i, none⟩ = some (.int .u8 ((l.getD i 0 : Nat) : Int))) (hbs : bs < w.heap.size) (hal : bs ≠ bd ∨ od ≤ os) :
    Calls Try.prog 73 #[.pointer (some p), .int .u8 c, .slice (some ⟨bd, od, none⟩) n cd, .slice (some ⟨bs, os, none⟩) n cs] w fun e w' =>
      e = .returned (.int .i64 0) ∧ Bytes w' bd (Wr.wr D od (l.map (gm c.toNat))) ∧ But bd w w' := by
  obtain ⟨c, rfl⟩ := Int.eq_ofNat_of_zero_le hc0
  exact mul_calls p c bd od n cd _ cs D l w (by omega) hd hn hl h8 hD8 hnm (fun _ => ⟨bs, os, rfl, fun i hi => hs i (by omega)⟩) (fun b o e => by injection e with e; injection e with e1 e2; subst e1 e2; exact hal)

/-- The same at a factor as the call has it. -/
theorem add_any (p : Addr) (c : Int) (bd od n cd bs os cs : Nat) (D l : List Nat) (w : World) (hc0 : 0 ≤ c) (hc : c < 256) (hd : Bytes w bd D) (hn : od + n ≤ D.length) (hl : l.length = n) (h8 : B8 l) (hD8 : B8 D) (hnm : n ≤ 9223372036854775807)
    (hs : ∀ i, i < n → w.cell? ⟨bs, os + i, none⟩ = some (.int .u8 ((l.getD i 0 : Nat) : Int))) (hbs : bs < w.heap.size) (hal : bs ≠ bd ∨ od ≤ os) :
    Calls Try.prog 74 #[.pointer (some p), .int .u8 c, .slice (some ⟨bd, od, none⟩) n cd, .slice (some ⟨bs, os, none⟩) n cs] w fun e w' =>
      e = .returned (.int .i64 0) ∧ Bytes w' bd (Wr.wr D od ((List.range n).map fun i => D.getD (od + i) 0 ^^^ gm c.toNat (l.getD i 0))) ∧ But bd w w' := by
  obtain ⟨c, rfl⟩ := Int.eq_ofNat_of_zero_le hc0
  exact add_calls p c bd od n cd _ cs D l w (by omega) hd hn hl h8 hD8 hnm (fun _ => ⟨bs, os, rfl, fun i hi => hs i (by omega)⟩) (fun b o e => by injection e with e; injection e with e1 e2; subst e1 e2; exact hal)

end Go.Proofs.Ytdbfkjhdnbmpeaa.Nb
