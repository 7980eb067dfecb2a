/- Layer 7: Mul and MulAdd over lists that are written over ('anew'); Columns once more. -/
import Derived.Test.YtcjcolmhhbnmgaaK2
import Derived.Test.YtcjcolmhhbnmgaaK4
import Derived.Test.YtcjcolmhhbnmgaaSx
import Derived.Test.YtcjcolmhhbnmgaaAp
namespace Go.Proofs.Ytcjcolmhhbnmgaa.Sl
set_option linter.unusedSimpArgs false
set_option linter.unusedVariables false
open Go Go.RowKit Go.Proofs.Ytcjcolmhhbnmgaa Go.Proofs.Ytcjcolmhhbnmgaa.Mm Go.Proofs.Ytcjcolmhhbnmgaa.Gf Go.Proofs.Ytcjcolmhhbnmgaa.Wr Go.Proofs.Ytcjcolmhhbnmgaa.St Go.Proofs.Ytcjcolmhhbnmgaa.Wd

/-- The new blocks in another order, or fewer. -/
theorem order_aux {w0 w : World} {W N : List Ent} (h : St w0 w W N) : ∀ is : List Nat, is.Nodup → ((is.filterMap (fun i => N[i]?)).map (·.b)).Nodup
  | [], _ => List.nodup_nil
  | i :: is, hn => by
    have ih := order_aux h is (List.nodup_cons.1 hn).2
    rw [List.filterMap_cons]
    cases hi : N[i]? with
    | none => exact ih
    | some e =>
      simp only [List.map_cons]
      refine List.nodup_cons.2 ⟨fun hm => ?_, ih⟩
      obtain ⟨e', he', hb⟩ := List.mem_map.1 hm
      obtain ⟨j, hj, hje⟩ := List.mem_filterMap.1 he'
      exact h.ne j i hje hi (fun e => (List.nodup_cons.1 hn).1 (e ▸ hj)) hb
theorem _root_.Go.Proofs.Ytcjcolmhhbnmgaa.St.St.order {w0 w : World} {W N N' : List Ent} (is : List Nat) (hN : is.filterMap (fun i => N[i]?) = N') (hn : is.Nodup) (h : St w0 w W N) : St w0 w W N' := by
  subst hN
  refine ⟨h.os, h.tape, h.output, h.size, h.old, h.wrt, fun e he => ?_, h.sepW, order_aux h is hn⟩
  obtain ⟨j, _, hj⟩ := List.mem_filterMap.1 he
  exact h.new e (List.mem_of_getElem? hj)
theorem _root_.Go.Proofs.Ytcjcolmhhbnmgaa.St.St.rdU {w0 w : World} {W N : List Ent} {b : Nat} {t : TypeId} {l : List Nat} (h : St w0 w W N) (m : (⟨b, t, row .u64 l⟩ : Ent) ∈ N) : RdV e64 w (some ⟨b, 0, none⟩) l := h.rdV m
/-- The head of a list of the call's own. -/
theorem _root_.Go.Proofs.Ytcjcolmhhbnmgaa.St.St.rdHead {w0 w : World} {W N : List Ent} {b n : Nat} {s tl : List Nat} (h : St w0 w W N) (hn : s.length = n) (m : bt b (s ++ tl) ∈ N) : Rd w (some ⟨b, 0, none⟩) s := h.rdTake (n := n) m (by subst hn; exact List.take_left)

theorem head_get {s tl : List Nat} {j : Nat} (h : j < s.length) : (s ++ tl).getD j 0 = s.getD j 0 := by
  rw [List.getD_eq_getElem?_getD, List.getD_eq_getElem?_getD, List.getElem?_append_left h]
theorem head_set {s tl : List Nat} {j v : Nat} (h : j < s.length) : (s ++ tl).set j v = s.set j v ++ tl := List.set_append_left _ _ h
theorem set_b8 {s : List Nat} {j v : Nat} (h : B8 s) (hv : v < 256) : B8 (s.set j v) := fun x hx => by
  rcases List.mem_or_eq_of_mem_set hx with hx | rfl
  · exact h x hx
  · exact hv

set_option maxRecDepth 100000 in
set_option maxHeartbeats 1000000 in
theorem Columns2 (c : Int) (w : World) (hc0 : 0 ≤ c) (hc : c < 256) :
    Calls Try.prog 24 #[.int .u8 c] w fun e w' => ∃ b D, e = .returned (.slice (some ⟨b, 0, none⟩) 8 D.length) ∧ (8 ≤ D.length ∧ D.length ≤ maxLen) ∧ D.take 8 = cols c.toNat ∧ St w w' [] [bt b D] := by
  obtain ⟨c, rfl⟩ := Int.eq_ofNat_of_zero_le hc0
  rw [Int.toNat_natCast]
  have hc' : c < 256 := by omega
  have S0 := Lib.hid (St.start w)
  have e0 : (Value.agg (Array.replicate 8 (.int .u8 0))).cells = row .u8 (zs 8) := by kernel_rfl
  have e1 : (row .u8 (cols c)).size = 8 := by rw [row_size, cols_length]
  have e2 : (cols c).length = 8 := cols_length c
  go_enter Try.func24, Try.ntmps24
  go_wp2_with fail
  refine (columns_q c _ hc').mono ?_
  rintro e w1 ⟨rfl, hh⟩
  have S1 := Lib.hid (S0.out.call hh); clear hh S0
  go_wp2_with (first
    | ((with_reducible refine at_slot (N := 3) rfl ?_); refine ev rfl (alloc_run _ (.agg (Array.replicate 8 (.int .u8 0))) (row .u8 (zs 8)) rfl (by kernel_rfl) e0) ?_)
    | ((with_reducible refine at_store (p := 3) rfl ?_); refine store_blk rfl _ _ _ rfl w1.heap.size (row .u8 (cols c)) rfl rfl _ _ (Blk.new w1 _ _) (by rw [e1]; kernel_rfl) (by rw [e1]; rfl) (row_all _ _) ?_; intro w2 hs2 hk2)
    | ((with_reducible refine at_slot (N := 7) rfl ?_); refine append_bytes (G := []) (N := []) rfl _ _ rfl _ [] rfl ((S1.out.alloc 64 (row .u8 (zs 8))).callN (N1 := []) (St.of_but hk2 hs2 (Blk.new w1 _ _).lt)).nil GrowB.nil (some ⟨w1.heap.size, 0, none⟩) 8 8 (cols c) rfl e2 (Rd.of_blk hs2) (cols_b8 hc') (by rw [e2]; decide) ?_; intro v' w3 G' hs3 hg3 hg4; have S3 := Lib.hid hs3; have HG := Lib.hid hg3; clear hs3 hg3 hg4))
  go_ret
  have hG : G' ≠ [] := fun h => by
    obtain ⟨b, D, _, _, _, h4⟩ := GrowB.full HG.out (by simp [e2])
    rw [h] at h4; simp at h4
  obtain ⟨b, D, rfl, p1, p3, _, p2, rfl⟩ := HG.out.some hG
  simp only [List.nil_append, e2] at p1 p2
  exact ⟨b, D, by simp [e2], ⟨p1, p3⟩, p2, S3.out⟩

set_option maxRecDepth 100000 in
set_option maxHeartbeats 8000000 in
theorem anew_st (c : Nat) (l : List Nat) (w : World) (hc : c < 256) (hl : l.length = 64) (h8 : B8 l) :
    Calls Try.prog 28 #[.int .u8 (c : Int), .agg (row .u8 l)] w fun e w' => e = .returned (.bool true) ∧ St w w' [] [] := by
  have HL := Lib.hid hl; have H8 := Lib.hid h8
  clear hl h8
  have S0 := Lib.hid (St.start w)
  go_enter Try.func28, Try.ntmps28
  go_wp2_with ((with_reducible refine at_slot (N := 3) rfl ?_); refine box_law rfl _ _ _ rfl rfl S0.out ?_; intro xb w1 h1; (try simp only [World.size_alloc, List.nil_append, List.cons_append, List.append_eq] at h1); have S1 := Lib.hid h1; clear h1 S0)
  refine (new_st _).mono ?_
  rintro e w2 ⟨k, rfl, hh⟩
  have h2 := S1.out.call hh; clear hh S1
  try simp only [List.nil_append, List.cons_append, List.append_eq, Int.toNat_natCast] at h2
  have S2 := Lib.hid h2; clear h2
  go_wp2_with (first
    | ((with_reducible refine at_slot (N := 14) rfl ?_); refine ev rfl (bslice_run _ 5 0 _ (row .u8 []) rfl (fun _ => by kernel_rfl)) ?_; have h3 := S2.out.alloc 5 (row .u8 []); (try simp only [World.size_alloc, List.nil_append, List.cons_append, List.append_eq] at h3); have S3 := Lib.hid h3; clear h3 S2)
    | ((with_reducible refine at_slot (N := 16) rfl ?_); refine append_bytes (N := [⟨xb, _, row .u8 l⟩]) (G := [bt w2.heap.size []]) rfl _ _ rfl _ [] rfl S3.out (GrowB.mkBlk (Nat.le_refl _) rfl (by decide) (B8.of_all (by decide)) rfl rfl) (some ⟨xb, 0, none⟩) 64 64 l rfl HL.out (Rd.of_blk (S3.out.blk mem1)) H8.out (by rw [HL.out]; decide) ?_; intro v1 w4 G1 h4 hg' hz; rw [List.nil_append] at hg'; obtain ⟨g, Dg, rfl, hle, _, _, ht, rfl⟩ := hg'.some (fun h => by have := (hz h).1; simp at this); rw [HL.out] at hle ht ⊢; have HLE := Lib.hid hle; obtain ⟨tl, htl⟩ : ∃ tl, Dg = l ++ tl := ⟨Dg.drop 64, by rw [← ht, List.take_append_drop]⟩; obtain ⟨cg, hcg⟩ : ∃ cg, Dg.length = cg := ⟨_, rfl⟩; rw [hcg] at HLE ⊢; rw [htl] at h4; clear hg' hz hle ht htl hcg; (try simp only [World.size_alloc, List.nil_append, List.cons_append, List.append_eq] at h4); have S4 := Lib.hid h4; clear h4 S3)
    | ((with_reducible refine at_slot (N := 17) rfl ?_); refine make_law rfl 22 5 _ .u8 (64) 1 rfl rfl Try.underlying22 info_u8 (by omega) (by omega) S4.out ?_; intro db w5 h5; (try simp only [World.size_alloc, List.nil_append, List.cons_append, List.append_eq] at h5); have S5 := Lib.hid h5; clear h5 S4))
  have SZ : Hid (St w w5 [] (bt db (zs 64) :: bt g (l ++ tl) :: [])) := Lib.hid (S5.out.drop (.cons_cons _ (.cons_cons _ (List.nil_sublist _))))
  clear S5
  obtain ⟨RR, hRR⟩ : ∃ RR : List Ent, Hid (RR = []) := ⟨[], Lib.hid rfl⟩
  have SZ : Hid (St w w5 [] (bt db (zs 64) :: bt g (l ++ tl) :: RR)) := Lib.hid (by rw [hRR.out]; exact SZ.out)
  go_loopw [8] (fun vi wr => ∃ (i : Nat) (d s : List Nat), i ≤ 3 ∧ vi = .int .i64 i ∧ d.length = 64 ∧ s.length = 64 ∧ B8 d ∧ B8 s ∧ St w wr [] (bt db d :: bt g (s ++ tl) :: RR)) (fun vi _ => 3 - (intOf vi).toNat)
  case atStart => exact ⟨0, zs 64, l, by omega, rfl, rfl, HL.out, B8.zeros 64, H8.out, SZ.out⟩
  case round =>
    clear SZ
    obtain ⟨i, d, s, hi, rfl, hdl, hsl, hd8, hs8, hs⟩ := hrel
    have S6 := Lib.hid hs; have HDL := Lib.hid hdl; have HSL := Lib.hid hsl; have HD8 := Lib.hid hd8; have HS8 := Lib.hid hs8
    clear hs hdl hsl hd8 hs8
    by_cases hlt : i < 3
    · have i1 : (i : Int) < 3 := by omega
      have MSL : Hid ((s.map (gm c)).length = 64) := Lib.hid (by rw [List.length_map, HSL.out])
      have MS8 : Hid (B8 (s.map (gm c))) := Lib.hid (map_b8 hc)
      go_wp2_with fail
      refine (ref_mul_eq c _ _ 64 _ _ d s _ hc HDL.out HSL.out (by decide) (S6.out.rd mem0) (S6.out.rdHead HSL.out mem1) HD8.out HS8.out).mono ?_
      rintro e w7 ⟨A7, c7, m7, G7, hm7, rfl, hs, hg⟩
      obtain rfl : 64 = m7 := by rw [hm7]; exact (MSL.out).symm
      clear hm7
      have h7 := S6.out.callR hs; have HG7 := Lib.hid hg; clear hs hg S6
      try simp only [List.nil_append, List.cons_append, List.append_eq, List.append_nil, Int.toNat_natCast] at h7
      have S7 := Lib.hid h7; clear h7
      go_wp2_with fail
      refine (mul_st (by omega) (by omega) (S7.out.blk mem0) HDL.out HSL.out HS8.out HD8.out (by decide) HLE.out (by decide) (Srcs.new (S7.out.rdHead HSL.out mem1) (S7.out.ne 1 0 rfl rfl (by decide)))).mono ?_
      rintro e w8 ⟨rfl, hh⟩
      have h8 := S7.out.callN (N1 := []) hh; clear hh S7
      try simp only [List.nil_append, List.cons_append, List.append_eq, Int.toNat_natCast] at h8
      have S8 := Lib.hid h8; clear h8
      go_wp2_with fail
      refine (same_st MSL.out (by decide) (S8.out.rd mem0) (HG7.out.read S8.out (fun e he => by simp [he]))).mono ?_
      rintro e w9 ⟨rfl, hh⟩
      have h9 := S8.out.call hh; clear hh S8
      try simp only [List.nil_append, List.cons_append, List.append_eq, Int.toNat_natCast] at h9
      have S9 := Lib.hid h9; clear h9
      go_wp2_with fail
      refine (mul_st (by omega) (by omega) (S9.out.blk mem0) MSL.out HSL.out HS8.out MS8.out (by decide) HLE.out (by decide) (Srcs.new (S9.out.rdHead HSL.out mem1) (S9.out.ne 1 0 rfl rfl (by decide)))).mono ?_
      rintro e w10 ⟨rfl, hh⟩
      have h10 := S9.out.callN (N1 := []) hh; clear hh S9
      try simp only [List.nil_append, List.cons_append, List.append_eq, Int.toNat_natCast] at h10
      have S10 := Lib.hid h10; clear h10
      go_wp2_with fail
      refine (same_st MSL.out (by decide) (S10.out.rd mem0) (HG7.out.read S10.out (fun e he => by simp [he]))).mono ?_
      rintro e w11 ⟨rfl, hh⟩
      have h11 := S10.out.call hh; clear hh S10
      try simp only [List.nil_append, List.cons_append, List.append_eq, Int.toNat_natCast] at h11
      have S11 := Lib.hid h11; clear h11
      have SA := S11; clear S11
      go_wp2_with fail
      obtain ⟨R1, hR1⟩ : ∃ R1 : List Ent, R1 = RR ++ G7 := ⟨_, rfl⟩
      rw [← hR1] at SA
      clear hR1 HG7
      go_loopw [11] (fun vj wq => ∃ (j : Nat) (s2 : List Nat), j ≤ 64 ∧ vj = .int .i64 j ∧ s2.length = 64 ∧ B8 s2 ∧ St w wq [] (bt db (s.map (gm c)) :: bt g (s2 ++ tl) :: R1)) (fun vj _ => 64 - (intOf vj).toNat)
      case atStart => exact ⟨0, s, by omega, rfl, HSL.out, HS8.out, SA.out⟩
      case round =>
        clear SA
        obtain ⟨j, s2, hj, rfl, hsl, hs8, hs⟩ := hrel
        have S7 := Lib.hid hs; have HSL2 := Lib.hid hsl; have HS82 := Lib.hid hs8
        clear hs hsl hs8
        by_cases hjt : j < 64
        · have m1 := (S7.out.blk mem1).cellRow (i := j) (by rw [List.length_append, HSL2.out]; omega)
          have f1 := (S7.out.blk mem1).free (i := j)
          rw [head_get (by rw [HSL2.out]; exact hjt)] at m1
          have hx := HS82.out.get (i := j) (by rw [HSL2.out]; exact hjt)
          generalize s2.getD j 0 = x at *
          have j1 : (j : Int) < 64 := by omega
          have e1 : (x : Int) * 3 % 256 = ((x * 3 % 256 : Nat) : Int) := by omega
          have e2 : IntKind.u8.wrap ((x : Int) * 3) = ((x * 3 % 256 : Nat) : Int) := e1
          obtain ⟨y1, hy1⟩ : ∃ y1, Hid (x * 3 % 256 = y1) := ⟨_, Lib.hid rfl⟩
          have hy1' : y1 < 256 := by rw [← hy1.out]; exact Nat.mod_lt _ (by decide)
          rw [hy1.out] at e1 e2
          have e3 : (i : Int) % 256 = (i : Int) := by omega
          have e4 : IntKind.u8.wrap (i : Int) = (i : Int) := e3
          obtain ⟨y2, hy2⟩ : ∃ y2 : Nat, Hid (((y1 : Int) + (i : Int)) % 256 = (y2 : Int) ∧ y2 < 256) := ⟨(y1 + i) % 256, Lib.hid ⟨by omega, Nat.mod_lt _ (by decide)⟩⟩
          have e5 : ((y1 : Int) + (i : Int)) % 256 = (y2 : Int) := hy2.out.1
          have e6 : IntKind.u8.wrap ((y1 : Int) + (i : Int)) = (y2 : Int) := e5
          obtain ⟨y3, hy3'⟩ : ∃ y3 : Nat, Hid (((y2 : Int) + 1) % 256 = (y3 : Int) ∧ y3 < 256) := ⟨(y2 + 1) % 256, Lib.hid ⟨by omega, Nat.mod_lt _ (by decide)⟩⟩
          have e7 : ((y2 : Int) + 1) % 256 = (y3 : Int) := hy3'.out.1
          have e8 : IntKind.u8.wrap ((y2 : Int) + 1) = (y3 : Int) := e7
          have hy3 : y3 < 256 := hy3'.out.2
          go_wp2_with fail
          clear m1 f1 e1 e2 e3 e4 e5 e6 e7 e8
          refine ⟨⟨j + 1, s2.set j y3, by omega, by simp, by rw [List.length_set]; exact HSL2.out, set_b8 HS82.out hy3, ?_⟩, ?_⟩
          · rw [← head_set (by rw [HSL2.out]; exact hjt)]
            exact S7.out.setRow (N1 := [_]) j y3
          · simp [intOf]; omega
        · obtain rfl : j = 64 := by omega
          have MSL2 : Hid ((s.map (gm c)).length = 64) := MSL
          have HXS : Hid ((xs (s.map (gm c)) (s2.map (gm c))).length = 64) := Lib.hid (by rw [xs_length, MSL.out])
          have HX8 : Hid (B8 (xs (s.map (gm c)) (s2.map (gm c)))) := Lib.hid (xs_b8 MS8.out (map_b8 hc) (by rw [MSL.out, List.length_map, HSL2.out]))
          obtain ⟨d1, hd1⟩ : ∃ d1, Hid (s.map (gm c) = d1) := ⟨_, Lib.hid rfl⟩
          rw [hd1.out] at MSL MS8 HXS HX8 S7
          go_wp2_with fail
          refine (ref_add_eq c _ _ 64 _ _ d1 s2 _ hc MSL.out HSL2.out (by decide) (S7.out.rd mem0) (S7.out.rdHead HSL2.out mem1) MS8.out HS82.out).mono ?_
          rintro e w8 ⟨A8, c8, m8, G8, hm8, rfl, hs, hg⟩
          obtain rfl : 64 = m8 := by rw [hm8]; exact (HXS.out).symm
          clear hm8
          have h8 := S7.out.callR hs; have HG8 := Lib.hid hg; clear hs hg S7
          try simp only [List.nil_append, List.cons_append, List.append_eq, List.append_nil, Int.toNat_natCast] at h8
          have S8 := Lib.hid h8; clear h8
          go_wp2_with fail
          refine (add_st (by omega) (by omega) (S8.out.blk mem0) MSL.out HSL2.out HS82.out MS8.out (by decide) HLE.out (by decide) (Srcs.new (S8.out.rdHead HSL2.out mem1) (S8.out.ne 1 0 rfl rfl (by decide)))).mono ?_
          rintro e w9 ⟨rfl, hh⟩
          have h9 := S8.out.callN (N1 := []) hh; clear hh S8
          try simp only [List.nil_append, List.cons_append, List.append_eq, Int.toNat_natCast] at h9
          have S9 := Lib.hid h9; clear h9
          go_wp2_with fail
          refine (same_st HXS.out (by decide) (S9.out.rd mem0) (HG8.out.read S9.out (fun e he => by simp [he]))).mono ?_
          rintro e w10 ⟨rfl, hh⟩
          have h10 := S9.out.call hh; clear hh S9
          try simp only [List.nil_append, List.cons_append, List.append_eq, Int.toNat_natCast] at h10
          have S10 := Lib.hid h10; clear h10
          have SB := S10; clear S10
          go_wp2_with fail
          obtain ⟨d2, hd2⟩ : ∃ d2, Hid (xs d1 (s2.map (gm c)) = d2) := ⟨_, Lib.hid rfl⟩
          rw [hd2.out] at HXS HX8 SB
          obtain ⟨R2, hR2⟩ : ∃ R2 : List Ent, R2 = R1 ++ G8 := ⟨_, rfl⟩
          rw [← hR2] at SB
          clear hR2 HG8 hd1 hd2 MSL MS8 MSL2
          go_loopw [12] (fun vj wq => ∃ (j : Nat) (d s : List Nat), j ≤ 64 ∧ vj = .int .i64 j ∧ d.length = 64 ∧ B8 d ∧ s.length = 64 ∧ B8 s ∧ St w wq [] (bt db d :: bt g (s ++ tl) :: R2)) (fun vj _ => 64 - (intOf vj).toNat)
          case atStart => exact ⟨0, d2, s2, by omega, rfl, HXS.out, HX8.out, HSL2.out, HS82.out, SB.out⟩
          case round =>
            clear SB HXS HX8 HSL2 HS82
            obtain ⟨j, d2, s2, hj, rfl, hdl, hd8, hsl, hs8, hs⟩ := hrel
            have S7 := Lib.hid hs; have HSL2 := Lib.hid hsl; have HS82 := Lib.hid hs8; have HDL2 := Lib.hid hdl; have HD82 := Lib.hid hd8
            clear hs hsl hs8 hdl hd8
            by_cases hjt : j < 64
            · have m1 := (S7.out.blk mem1).cellRow (i := j) (by rw [List.length_append, HSL2.out]; omega)
              have f1 := (S7.out.blk mem1).free (i := j)
              rw [head_get (by rw [HSL2.out]; exact hjt)] at m1
              have hx := HS82.out.get (i := j) (by rw [HSL2.out]; exact hjt)
              have m2 := (S7.out.blk mem0).cellRow (i := j) (by rw [HDL2.out]; exact hjt)
              have f2 := (S7.out.blk mem0).free (i := j)
              have hz := HD82.out.get (i := j) (by rw [HDL2.out]; exact hjt)
              generalize s2.getD j 0 = x at *
              generalize d2.getD j 0 = z at *
              have hne := S7.out.ne 1 0 rfl rfl (by decide)
              have hne' : g ≠ db := hne
              have x1 : Go.bits .xor .u8 (z : Int) 85 = ((z ^^^ 85 : Nat) : Int) := Bt.xor8 hz (by decide)
              have hzx : z ^^^ 85 < 256 := xor_lt hz (by decide)
              have j1 : (j : Int) < 64 := by omega
              have e1 : (x : Int) * 3 % 256 = ((x * 3 % 256 : Nat) : Int) := by omega
              have e2 : IntKind.u8.wrap ((x : Int) * 3) = ((x * 3 % 256 : Nat) : Int) := e1
              obtain ⟨y1, hy1⟩ : ∃ y1, Hid (x * 3 % 256 = y1) := ⟨_, Lib.hid rfl⟩
              have hy1' : y1 < 256 := by rw [← hy1.out]; exact Nat.mod_lt _ (by decide)
              rw [hy1.out] at e1 e2
              have e3 : (i : Int) % 256 = (i : Int) := by omega
              have e4 : IntKind.u8.wrap (i : Int) = (i : Int) := e3
              obtain ⟨y2, hy2⟩ : ∃ y2 : Nat, Hid (((y1 : Int) + (i : Int)) % 256 = (y2 : Int) ∧ y2 < 256) := ⟨(y1 + i) % 256, Lib.hid ⟨by omega, Nat.mod_lt _ (by decide)⟩⟩
              have e5 : ((y1 : Int) + (i : Int)) % 256 = (y2 : Int) := hy2.out.1
              have e6 : IntKind.u8.wrap ((y1 : Int) + (i : Int)) = (y2 : Int) := e5
              obtain ⟨y3, hy3'⟩ : ∃ y3 : Nat, Hid (((y2 : Int) + 1) % 256 = (y3 : Int) ∧ y3 < 256) := ⟨(y2 + 1) % 256, Lib.hid ⟨by omega, Nat.mod_lt _ (by decide)⟩⟩
              have e7 : ((y2 : Int) + 1) % 256 = (y3 : Int) := hy3'.out.1
              have e8 : IntKind.u8.wrap ((y2 : Int) + 1) = (y3 : Int) := e7
              have hy3 : y3 < 256 := hy3'.out.2
              go_wp2_with fail
              clear m1 f1 m2 f2 e1 e2 e3 e4 e5 e6 e7 e8 x1 hne
              refine ⟨⟨j + 1, d2.set j (z ^^^ 85), s2.set j y3, by omega, by simp, by rw [List.length_set]; exact HDL2.out, set_b8 HD82.out hzx, by rw [List.length_set]; exact HSL2.out, set_b8 HS82.out hy3, ?_⟩, ?_⟩
              · rw [← head_set (by rw [HSL2.out]; exact hjt)]
                exact (S7.out.setRow (N1 := [_]) j y3).setRow (N1 := []) j (z ^^^ 85)
              · simp [intOf]; omega
            · obtain rfl : j = 64 := by omega
              have HXS : Hid ((xs d2 (s2.map (gm c))).length = 64) := Lib.hid (by rw [xs_length, HDL2.out])
              have HX8 : Hid (B8 (xs d2 (s2.map (gm c)))) := Lib.hid (xs_b8 HD82.out (map_b8 hc) (by rw [HDL2.out, List.length_map, HSL2.out]))
              go_wp2_with fail
              refine (ref_add_eq c _ _ 64 _ _ d2 s2 _ hc HDL2.out HSL2.out (by decide) (S7.out.rd mem0) (S7.out.rdHead HSL2.out mem1) HD82.out HS82.out).mono ?_
              rintro e w8 ⟨A8, c8, m8, G8, hm8, rfl, hs, hg⟩
              obtain rfl : 64 = m8 := by rw [hm8]; exact (HXS.out).symm
              clear hm8
              have h8 := S7.out.callR hs; have HG8 := Lib.hid hg; clear hs hg S7
              try simp only [List.nil_append, List.cons_append, List.append_eq, List.append_nil, Int.toNat_natCast] at h8
              have S8 := Lib.hid h8; clear h8
              go_wp2_with fail
              refine (add_st (by omega) (by omega) (S8.out.blk mem0) HDL2.out HSL2.out HS82.out HD82.out (by decide) HLE.out (by decide) (Srcs.new (S8.out.rdHead HSL2.out mem1) (S8.out.ne 1 0 rfl rfl (by decide)))).mono ?_
              rintro e w9 ⟨rfl, hh⟩
              have h9 := S8.out.callN (N1 := []) hh; clear hh S8
              try simp only [List.nil_append, List.cons_append, List.append_eq, Int.toNat_natCast] at h9
              have S9 := Lib.hid h9; clear h9
              go_wp2_with fail
              refine (same_st HXS.out (by decide) (S9.out.rd mem0) (HG8.out.read S9.out (fun e he => by simp [he]))).mono ?_
              rintro e w10 ⟨rfl, hh⟩
              have h10 := S9.out.call hh; clear hh S9
              try simp only [List.nil_append, List.cons_append, List.append_eq, Int.toNat_natCast] at h10
              have S10 := Lib.hid h10; clear h10
              go_wp2_with fail
              refine ⟨⟨i + 1, _, s2, by omega, by simp, HXS.out, HSL2.out, HX8.out, HS82.out, ?_⟩, ?_⟩
              · rw [hRR.out]; exact S10.out.drop (.cons_cons _ (.cons_cons _ (List.nil_sublist _)))
              · simp [intOf]; omega
    · go_wp2_with fail
      go_ret
      exact ⟨rfl, S6.out.nil⟩

end Go.Proofs.Ytcjcolmhhbnmgaa.Sl
