/- Layer 7 (sliced): run, for the sum. -/
import Derived.Test.YtdbfkjhdnbmpeaaSr
namespace Go.Proofs.Ytdbfkjhdnbmpeaa.Sl
set_option linter.unusedSimpArgs false
set_option linter.unusedVariables false
open Go Go.RowKit Go.Proofs.Ytdbfkjhdnbmpeaa Go.Proofs.Ytdbfkjhdnbmpeaa.Mm Go.Proofs.Ytdbfkjhdnbmpeaa.Gf Go.Proofs.Ytdbfkjhdnbmpeaa.Wr Go.Proofs.Ytdbfkjhdnbmpeaa.St Go.Proofs.Ytdbfkjhdnbmpeaa.Wd

/-- Eight bytes of a block. -/
theorem blk_word {w : World} {b o : Nat} {D : List Nat} (hd : Bytes w b D) (ho : o + 8 ≤ D.length) : ∀ t, t < 8 → w.cell? ⟨b, o + t, none⟩ = some (.int .u8 ((((D.drop o).take 8).getD t 0 : Nat) : Int)) := by
  intro t ht
  rw [hd.cellRow (i := o + t) (by omega)]
  simp [ht]
/-- One word's sum. -/
theorem out_word {c od j : Nat} {D l : List Nat} (hj : 8 * j + 8 ≤ l.length) (ho : od + l.length ≤ D.length) (hc : c < 256) (hD8 : B8 D) (h8 : B8 l) :
    W8 (((l.drop (8 * j)).take 8).map (gm c)) ^^^ W8 (((Wr.wr D od ((outs c 255 od D l).take (8 * j))).drop (od + 8 * j)).take 8) = W8 (((outs c 255 od D l).drop (8 * j)).take 8) := by
  rw [W8_xor (map_b8 hc) ((wr_b8 hD8 ((outs_b8 hc (by decide) hD8 ho h8).take _)).piece _ _) (by simp [wr_length]; omega)]
  congr 1
  apply ext8
  · simp [wr_length, outs_length]; omega
  · intro i hi
    have hi' : i < 8 := by simp [wr_length] at hi; omega
    have hb : (Wr.wr D od ((outs c 255 od D l).take (8 * j))).getD (od + 8 * j + i) 0 = D.getD (od + 8 * j + i) 0 := wr_above (by rw [List.length_take, outs_length]; omega) (by rw [List.length_take, outs_length]; omega)
    have h1 : ((Wr.wr D od ((outs c 255 od D l).take (8 * j))).drop (od + 8 * j)).take 8 = ((List.range 8).map fun i => D.getD (od + 8 * j + i) 0) := by
      apply ext8
      · simp [wr_length]; omega
      · intro k hk
        have hk' : k < 8 := by simp [wr_length] at hk; omega
        have := wr_above (vs := (outs c 255 od D l).take (8 * j)) (D := D) (o := od) (i := od + 8 * j + k) (by rw [List.length_take, outs_length]; omega) (by rw [List.length_take, outs_length]; omega)
        rw [List.getD_eq_getElem?_getD, List.getElem?_take, if_pos hk', List.getElem?_drop, ← List.getD_eq_getElem?_getD, this]
        simp [hk']
    rw [h1, outs_piece, outs_full hD8 (by rw [List.length_take, List.length_drop]; omega)]
    have hn : min 8 (l.length - 8 * j) = 8 := by omega
    have hg : 8 * j + i < l.length := by omega
    simp only [List.getD_eq_getElem?_getD, List.getElem?_zipWith, List.getElem?_map, List.getElem?_take, List.getElem?_drop, List.length_take, List.length_drop, hn, List.getElem?_range hi', if_pos hi', List.getElem?_eq_getElem hg, Option.map_some, Option.getD_some, Nat.xor_comm]

set_option maxRecDepth 100000 in
set_option maxHeartbeats 4000000 in
theorem run_add (c bd od n cd bs os cs : Nat) (D l : List Nat) (w : World) (hc : c < 256) (hd : Bytes w bd D) (ho : od + l.length ≤ D.length) (h8 : B8 l) (hD8 : B8 D) (hl : l.length = n) (hcd : n ≤ cd) (hcs : n ≤ cs) (hnm : n ≤ 281474976710656) (hs : Src w bd od bs os D l) :
    Calls Try.prog 79 #[.int .u8 (c : Int), .slice (some ⟨bd, od, none⟩) n cd, .slice (some ⟨bs, os, none⟩) n cs, .int .u8 255] w fun e w' => e = .returned (.tuple #[]) ∧ St w w' [bt bd (Wr.wr D od (outs c 255 od D l))] [] := by
  have H8 := Lib.hid h8; have HD8 := Lib.hid hD8; have HL := Lib.hid hl; have HO := Lib.hid ho; have HS := Lib.hid hs
  have S0 := Lib.hid (St.start1 hd)
  have e0 : (Value.agg (Array.replicate 8 (.int .u8 0))).cells = row .u8 (zs 8) := by kernel_rfl
  have e1 : (row .u8 (cols c)).size = 8 := by rw [row_size, cols_length]
  clear h8 hD8 hl ho hs hd
  obtain ⟨q, eq⟩ : ∃ q, n / 8 = q := ⟨_, rfl⟩
  have q1 : (n : Int) / 8 = (q : Int) := by omega
  have q2 : Int.tdiv (n : Int) 8 = (q : Int) := by rw [Int.tdiv_eq_ediv_of_nonneg (by omega)]; omega
  have HQ := Lib.hid (show 8 * q ≤ n ∧ n < 8 * q + 8 by omega)
  clear eq
  go_enter Try.func79, Try.ntmps79
  go_wp2_with fail
  refine (columns_q c _ hc).mono ?_
  rintro e w1 ⟨rfl, hh⟩
  have S1 := Lib.hid (S0.out.call hh); clear hh S0
  go_wp2_with (first
    | ((with_reducible refine at_slot (N := 8) rfl ?_); refine ev rfl (alloc_run _ (.agg (Array.replicate 8 (.int .u8 0))) (row .u8 (zs 8)) rfl (by kernel_rfl) e0) ?_)
    | ((with_reducible refine at_store (p := 8) rfl ?_); refine store_blk rfl _ _ _ rfl w1.heap.size (row .u8 (cols c)) rfl rfl _ _ (Blk.new w1 _ _) (by rw [e1]; kernel_rfl) (by rw [e1]; rfl) (row_all _ _) ?_; intro w2 hs2 hk2))
  have h2 := (S1.out.alloc 138 (row .u8 (zs 8))).callN (N1 := []) (St.of_but hk2 hs2 (Blk.new w1 _ _).lt)
  have S2 := Lib.hid h2
  have HLE := Lib.hid (S1.out.size)
  clear h2 hs2 hk2 S1 e0 e1
  go_loopw [10] (fun vi wq => ∃ j : Nat, j ≤ q ∧ vi = .int .i64 (8 * (j : Int)) ∧ St w wq [bt bd (Wr.wr D od ((outs c 255 od D l).take (8 * j)))] [⟨w1.heap.size, 138, row .u8 (cols c)⟩]) (fun vi _ => n - (intOf vi).toNat)
  case atStart => exact ⟨0, by omega, rfl, by simpa [Wr.wr] using S2.out⟩
  case round =>
    clear S2
    obtain ⟨j, hj, rfl, hs⟩ := hrel
    have S3 := Lib.hid hs; clear hs
    by_cases hlt : j < q
    · have b1 : (8 : Int) * (j : Int) ≤ (n : Int) := by have := HQ.out; omega
      have b2 : (0 : Int) ≤ 8 * (j : Int) := by omega
      have b6 : (8 : Int) * (j : Int) < (q : Int) * 8 := by omega
      have t1 : ((8 : Int) * (j : Int)).toNat = 8 * j := by omega
      have b3 : 8 * j + 8 ≤ n := by have := HQ.out; omega
      have b4 : (n : Int) ≤ (cd : Int) := by omega
      have b5 : (n : Int) ≤ (cs : Int) := by omega
      have g1 : ¬ cd = 8 * j := by omega
      have g2 : ¬ cs = 8 * j := by omega
      have hin := HO.out
      have hll := HL.out
      have hbn : w1.heap.size ≠ bd := by have := S3.out.ltW mem0; have := HLE.out; omega
      have HSW := Lib.hid (src_word (src_rest (k := 8 * j) S3.out.but HS.out (fun i hi => wr_above (by rw [List.length_take, outs_length]; omega) (by rw [List.length_take, outs_length]; omega))) (S3.out.blkW mem0) (by rw [wr_length, List.length_drop]; omega) (by rw [List.length_drop]; omega))
      have L8 : ((l.drop (8 * j)).take 8).length = 8 := by rw [List.length_take, List.length_drop]; omega
      have B88 : B8 ((l.drop (8 * j)).take 8) := H8.out.piece _ _
      go_wp2_with fail
      refine (load_q bs (os + 8 * j) (n - 8 * j) (cs - 8 * j) ((l.drop (8 * j)).take 8) _ (by omega) B88 L8 HSW.out).mono ?_
      rintro e w5 ⟨rfl, rfl⟩
      go_wp2_with fail
      refine (word_q c w1.heap.size _ _ hc (S3.out.blk mem0) B88 L8).mono ?_
      rintro e w6 ⟨rfl, n6, rfl⟩
      have S5 := Lib.hid (S3.out.drewN (n := n6))
      have D8 : (((Wr.wr D od ((outs c 255 od D l).take (8 * j))).drop (od + 8 * j)).take 8).length = 8 := by rw [List.length_take, List.length_drop, wr_length]; omega
      have hD' : B8 (Wr.wr D od ((outs c 255 od D l).take (8 * j))) := wr_b8 HD8.out ((outs_b8 hc (by decide) HD8.out HO.out H8.out).take _)
      have DB8 : B8 (((Wr.wr D od ((outs c 255 od D l).take (8 * j))).drop (od + 8 * j)).take 8) := hD'.piece _ _
      have HDC := Lib.hid (fun (t : Nat) (ht : t < 8) => blk_word (S3.out.blkW mem0) (by rw [wr_length]; omega : od + 8 * j + 8 ≤ _) t ht)
      have HX := Lib.hid (out_word (c := c) (j := j) (by omega : 8 * j + 8 ≤ l.length) HO.out hc HD8.out H8.out)
      have LY := Lib.hid (fun (w9 : World) (h9 : Bytes w9 bd (Wr.wr D od ((outs c 255 od D l).take (8 * j)))) => lay_at bd (od + 8 * j) (n - 8 * j) (cd - 8 * j) (Wr.wr D od ((outs c 255 od D l).take (8 * j))) (((outs c 255 od D l).drop (8 * j)).take 8) w9 h9 (by omega) (by rw [wr_length]; omega) ((outs_b8 hc (by decide) HD8.out HO.out H8.out).piece _ _) (by rw [List.length_take, List.length_drop, outs_length]; omega))
      have v64 : W8 (((l.drop (8 * j)).take 8).map (gm c)) < 18446744073709551616 := W8_lt64 (map_b8 hc) (by rw [List.length_map]; exact L8)
      have d64 : W8 (((Wr.wr D od ((outs c 255 od D l).take (8 * j))).drop (od + 8 * j)).take 8) < 18446744073709551616 := W8_lt64 DB8 D8
      have LD := Lib.hid (fun w9 h9 => load_q bd (od + 8 * j) (n - 8 * j) (cd - 8 * j) (((Wr.wr D od ((outs c 255 od D l).take (8 * j))).drop (od + 8 * j)).take 8) w9 (by omega) DB8 D8 h9)
      have HVX := Lib.hid (Bt.xor64 (lt64 v64) (lt64 d64))
      rw [HX.out] at HVX
      clear HX
      generalize ((W8 (((l.drop (8 * j)).take 8).map (gm c)) : Nat) : Int) = v at *
      go_wp2_with fail
      refine (LD.out (wr.drewN n6) HDC.out).mono ?_
      rintro e w8 ⟨rfl, rfl⟩
      generalize ((W8 (((Wr.wr D od ((outs c 255 od D l).take (8 * j))).drop (od + 8 * j)).take 8) : Nat) : Int) = d at *
      have hvx := HVX.out
      generalize ((W8 (((outs c 255 od D l).drop (8 * j)).take 8) : Nat) : Int) = x at *
      clear HVX
      go_wp2_with fail
      clear hvx
      refine (LY.out _ (S5.out.blkW mem0)).mono ?_
      rintro e w7 ⟨rfl, hh⟩
      have h6 := S5.out.callW (W1 := []) hh
      rw [wr_word (by rw [outs_length]; omega)] at h6
      have S6 := Lib.hid h6
      clear hh h6
      go_wp2_with fail
      have t2 : wrap64 (8 * (j : Int) + 8) = 8 * ((j + 1 : Nat) : Int) := by unfold wrap64; omega
      try rw [t2]
      refine ⟨⟨j + 1, by omega, rfl, by simpa [Nat.mul_add] using S6.out⟩, ?_⟩
      show n - (8 * ((j + 1 : Nat) : Int)).toNat < n - (8 * (j : Int)).toNat
      have := HQ.out; omega
    · obtain rfl : j = q := by omega
      have b1 : (j : Int) * 8 ≤ (n : Int) := by have := HQ.out; omega
      have b2 : (0 : Int) ≤ (j : Int) * 8 := by omega
      have t1 : ((j : Int) * 8).toNat = 8 * j := by omega
      have b3 : 8 * j ≤ n := HQ.out.1
      have b4 : (n : Int) ≤ (cd : Int) := by omega
      have b5 : (n : Int) ≤ (cs : Int) := by omega
      have hj8 : 8 * j ≤ (outs c 255 od D l).length := by rw [outs_length, HL.out]; exact b3
      by_cases hz : n = 8 * j
      · have z : n - 8 * j = 0 := by omega
        go_wp2_with fail
        refine Qt.quiet_tail 7 (by kernel_rfl) (by kernel_rfl) ?_
        simp only [List.take_succ_cons, List.take_zero, List.drop_succ_cons, List.drop_zero]
        repeat (quiet_step (fail))
        refine wpQuiet_nil ?_
        rintro _ ⟨nq, rfl⟩
        go_wp2_with fail
        all_goals (
          refine (tail_zero w1.heap.size _ _ _ _ _ _ _).mono ?_
          rintro e w4 ⟨rfl, hh⟩
          have S4 := Lib.hid ((S3.out.drewN (n := nq)).call hh)
          clear hh
          rw [List.take_of_length_le (by rw [outs_length, HL.out]; omega)] at S4
          go_wp2_with fail
          exact bodyPost_end (results_none rfl _ _ _) rfl ⟨rfl, S4.out.nil⟩)
      · have g1 : ¬ cd = 8 * j := by omega
        have g2 : ¬ cs = 8 * j := by omega
        go_wp2_with fail
        refine Qt.quiet_tail 7 (by kernel_rfl) (by kernel_rfl) ?_
        simp only [List.take_succ_cons, List.take_zero, List.drop_succ_cons, List.drop_zero]
        repeat (quiet_step (fail))
        refine wpQuiet_nil ?_
        rintro _ ⟨nq, rfl⟩
        go_wp2_with fail
        have hbn : w1.heap.size ≠ bd := by have := S3.out.ltW mem0; have := HLE.out; omega
        have hin := HO.out
        have hll := HL.out
        have hq := HQ.out
        have S3n := Lib.hid (S3.out.drewN (n := nq))
        have hD' : B8 (Wr.wr D od ((outs c 255 od D l).take (8 * j))) := wr_b8 HD8.out ((outs_b8 hc (by decide) HD8.out HO.out H8.out).take _)
        refine (tail_at c 255 w1.heap.size bd (od + 8 * j) (n - 8 * j) (cd - 8 * j) bs (os + 8 * j) (n - 8 * j) (cs - 8 * j) (Wr.wr D od ((outs c 255 od D l).take (8 * j))) (l.drop (8 * j)) _ hc (by decide) (S3n.out.blk mem0) hbn (S3n.out.blkW mem0) (by omega) (by omega) (Nat.le_refl _) (by rw [wr_length, List.length_drop]; omega) (H8.out.drop _) hD' (by rw [List.length_drop]; omega) ?_).mono ?_
        · exact src_rest S3n.out.but HS.out (fun i hi => wr_above (by rw [List.length_take, outs_length]; omega) (by rw [List.length_take, outs_length]; omega))
        · rintro e w4 ⟨rfl, hh⟩
          have S4 := Lib.hid (S3n.out.callW (W1 := []) hh)
          rw [outs_rest (by omega) hin, wr_rest hj8] at S4
          go_wp2_with fail
          exact bodyPost_end (results_none rfl _ _ _) rfl ⟨rfl, S4.out.nil⟩

end Go.Proofs.Ytdbfkjhdnbmpeaa.Sl
