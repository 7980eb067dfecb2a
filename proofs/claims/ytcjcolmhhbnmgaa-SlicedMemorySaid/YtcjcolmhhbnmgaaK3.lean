/- The law SlicedPieces. -/
import Derived.Test.YtcjcolmhhbnmgaaK2
import Derived.Deep.RegionHeld3
namespace Go.Proofs.Ytcjcolmhhbnmgaa.Sl
set_option linter.unusedSimpArgs false
set_option linter.unusedVariables false
open Go Go.RowKit Go.Proofs.Ytcjcolmhhbnmgaa Go.Proofs.Ytcjcolmhhbnmgaa.Mm Go.Proofs.Ytcjcolmhhbnmgaa.Gf Go.Proofs.Ytcjcolmhhbnmgaa.Wr Go.Proofs.Ytcjcolmhhbnmgaa.St Go.Proofs.Ytcjcolmhhbnmgaa.Wd

theorem wr_more {D m : List Nat} {a h : Nat} (hah : a ≤ h) (hh : h ≤ m.length) : Wr.wr (Wr.wr D 0 (m.take a)) a ((m.drop a).take (h - a)) = Wr.wr D 0 (m.take h) := by
  have e : m.take h = m.take a ++ (m.drop a).take (h - a) := by
    rw [← List.take_add]; congr 1; omega
  rw [e, wr_append, List.length_take, Nat.min_eq_left (by omega), Nat.zero_add]
theorem map_piece {f : Nat → Nat} {l : List Nat} (a n : Nat) : ((l.drop a).take n).map f = ((l.map f).drop a).take n := by simp [List.map_take, List.map_drop]

theorem W8_app (a b : List Nat) : W8 (a ++ b) = W8 a + 2 ^ (8 * a.length) * W8 b := by
  induction a with
  | nil => simp [W8]
  | cons x a ih =>
    simp only [List.cons_append, W8, ih, List.length_cons]
    rw [show 8 * (a.length + 1) = 8 * a.length + 8 from by omega, Nat.pow_add, Nat.mul_add, ← Nat.mul_assoc, Nat.mul_comm 256 (2 ^ (8 * a.length)), show (2 : Nat) ^ 8 = 256 from rfl, Nat.add_assoc]
theorem W8_take_succ {l : List Nat} (h : B8 l) {k : Nat} (hk : k < l.length) : (W8 (l.take k)) ||| (l.getD k 0 * 2 ^ (8 * k)) = W8 (l.take (k + 1)) := by
  have e : l.take (k + 1) = l.take k ++ [l.getD k 0] := by
    rw [List.take_succ_eq_append_getElem hk]; simp [hk]
  have hlt := W8_lt (l.take k) (h.take k)
  rw [List.length_take, Nat.min_eq_left (by omega), show (256 : Nat) = 2 ^ 8 from rfl, ← Nat.pow_mul] at hlt
  rw [e, W8_app, List.length_take, Nat.min_eq_left (by omega), Nat.or_comm, Nat.mul_comm, ← Nat.two_pow_add_eq_or_of_lt hlt]
  simp [W8]; omega
theorem b8_W8 {l : List Nat} (h : B8 l) (hl : l.length = 8) : b8 (W8 l) = l := by
  apply ext8
  · simp [b8, hl]
  · intro i hi
    have hi' : i < 8 := by simpa [b8] using hi
    have := W8_byte h (i := i)
    simp only [b8, List.getD_eq_getElem?_getD, List.getElem?_map, List.getElem?_range hi', Option.map_some, Option.getD_some]
    rw [this]; simp
theorem word_w8 (c : Nat) (l : List Nat) (w : World) (hc : c < 256) (h : B8 l) (hl : l.length = 8) :
    Calls Try.prog 16 #[.int .u8 (c : Int), .int .u64 ((W8 l : Nat) : Int)] w fun e w' => e = .returned (.int .u64 ((W8 (l.map (gm c)) : Nat) : Int)) ∧ St w w' [] [] := by
  have := W8_lt64 h hl
  have h1 := word_calls (c : Int) ((W8 l : Nat) : Int) w (by omega) (by omega) (by omega) (by omega)
  rw [Int.toNat_natCast, Int.toNat_natCast, b8_W8 h hl] at h1
  exact h1
theorem W8_take_lt {l : List Nat} (h : B8 l) (k : Nat) (hk : k ≤ 8) : W8 (l.take k) < 18446744073709551616 := by
  have h1 := W8_lt (l.take k) (h.take k)
  have h2 : (l.take k).length ≤ 8 := by rw [List.length_take]; omega
  exact Nat.lt_of_lt_of_le h1 (Nat.pow_le_pow_right (by decide) h2 : 256 ^ (l.take k).length ≤ 256 ^ 8)
theorem shl_lt {x k : Nat} (hx : x < 256) (hk : k < 8) : x * 2 ^ (8 * k) < 18446744073709551616 := by
  have h1 : 2 ^ (8 * k) ≤ 2 ^ 56 := Nat.pow_le_pow_right (by decide) (by omega)
  have h2 : x * 2 ^ (8 * k) ≤ 255 * 2 ^ 56 := Nat.mul_le_mul (by omega) h1
  omega

set_option maxRecDepth 100000 in
set_option maxHeartbeats 4000000 in
theorem pieces_walk (c : Nat) (A : Option Addr) (n cp : Nat) (l : List Nat) (A2 : Option Addr) (n2 cp2 : Nat) (ct : List Int) (w : World) (hc : c < 256) (h : (Kk.kSlice Kk.kByte 1).ok w.heap.size w [.slice A n cp] l) (h2 : (Kk.kSlice (Kk.kInt .i64) 8).ok w.heap.size w [.slice A2 n2 cp2] ct) :
    Calls Try.prog 3 #[.int .u8 c, .slice A n cp, .slice A2 n2 cp2] w fun e w' => e = .returned (.bool true) ∧ Below w.heap.size w w' := by
  obtain ⟨hl, hn, hcp, hr, h8, _⟩ := open_bytes h
  obtain ⟨hl2, hn2, _, _, hr2, hw2⟩ := open_ints h2
  have HL := Lib.hid hl; have HR := Lib.hid hr; have H8 := Lib.hid h8
  have HL2 := Lib.hid hl2; have HR2 := Lib.hid hr2; have HW2 := Lib.hid hw2
  have MC : Hid ((l.map (gm c)).length = n) := Lib.hid (by rw [List.length_map, hl])
  have BC : Hid (B8 (l.map (gm c))) := Lib.hid (map_b8 hc)
  have hn3 : n ≤ 281474976710656 := by omega
  clear h h2 hl hr h8 hl2 hr2 hw2
  have S0 := Lib.hid (St.start w)
  go_enter Try.func3, Try.ntmps3
  go_wp2_with fail
  refine (new_st _).mono ?_
  rintro e w1 ⟨p, rfl, hh⟩
  have h1 := S0.out.call hh; clear hh S0
  try simp only [List.nil_append, List.cons_append, List.append_eq, Int.toNat_natCast] at h1
  have S1 := Lib.hid h1; clear h1
  go_wp2_with fail
  refine (awake_st _ _).mono ?_
  rintro e w2 ⟨rfl, hh⟩
  have h2 := S1.out.call hh; clear hh S1
  try simp only [List.nil_append, List.cons_append, List.append_eq, Int.toNat_natCast] at h2
  have S2 := Lib.hid h2; clear h2
  go_wp2_with ((with_reducible refine at_slot (N := 24) rfl ?_); refine make_law rfl 22 5 _ .u8 (n) 1 rfl rfl Try.underlying22 info_u8 (by omega) (by omega) S2.out ?_; intro bw w3 h3; (try simp only [World.size_alloc, List.nil_append, List.cons_append, List.append_eq] at h3); have S3 := Lib.hid h3; clear h3 S2)
  refine (mul_st (by omega) (by omega) (S3.out.blk mem0) (zs_len n) HL.out H8.out (zs_b8 n) (Nat.le_refl _) hcp hn3 (Srcs.ext S3.out mem0 HR.out)).mono ?_
  rintro e w4 ⟨rfl, hh⟩
  have h4 := S3.out.callN (N1 := []) hh; clear hh S3
  try simp only [List.nil_append, List.cons_append, List.append_eq, Int.toNat_natCast] at h4
  have S4 := Lib.hid h4; clear h4
  go_wp2_with ((with_reducible refine at_slot (N := 32) rfl ?_); refine make_law rfl 22 5 _ .u8 (n) 1 rfl rfl Try.underlying22 info_u8 (by omega) (by omega) S4.out ?_; intro bp w5 h5; (try simp only [World.size_alloc, List.nil_append, List.cons_append, List.append_eq] at h5); have S5 := Lib.hid h5; clear h5 S4)
  have H5 := S5
  clear S5
  go_loopw [11, 12] (fun va vi wr => ∃ i a : Nat, i ≤ n2 ∧ a ≤ n ∧ vi = .int .i64 i ∧ va = .int .i64 a ∧ St w wr [] [bt bp (Wr.wr (zs n) 0 ((l.map (gm c)).take a)), bt bw (l.map (gm c))]) (fun _ vi _ => n2 - (intOf vi).toNat)
  case atStart => exact ⟨0, 0, by omega, by omega, rfl, rfl, H5.out⟩
  case round =>
    clear H5
    obtain ⟨i, a, hi, ha, rfl, rfl, hs⟩ := hrel
    have S5 := Lib.hid hs; clear hs
    by_cases hlt : i < n2 ∧ i < 64
    · obtain ⟨hlt, h64⟩ := hlt
      obtain ⟨b2, o2, e2, k2⟩ := HR2.out (by rw [HL2.out]; omega)
      subst e2
      have k2' := k2 i (by rw [HL2.out]; exact hlt)
      have hwf := wf_i64 (HW2.out.get (i := i) (by rw [HL2.out]; exact hlt))
      clear k2
      generalize ct.getD i 0 = v at *
      have HC : Hid (∀ w', St w w' [] [] → w'.cell? ⟨b2, o2 + i, none⟩ = some (.int .i64 v)) := Lib.hid (fun w' hb => by rw [hb.below.cell (p := ⟨b2, o2 + i, none⟩) (cell_lt k2')]; exact k2')
      clear k2'
      have m2 := HC.out _ S5.out.nil
      have i1 : (i : Int) < (n2 : Int) := by omega
      have i2 : (i : Int) < 64 := by omega
      by_cases hv : (a : Int) < v ∧ v ≤ (n : Int)
      · obtain ⟨hv1, hv2⟩ := hv
        obtain ⟨h, rfl⟩ := Int.eq_ofNat_of_zero_le (show 0 ≤ v by omega)
        have hah : a < h := by omega
        have hhn : h ≤ n := by omega
        have hah2 : a ≤ h := by omega
        have hhc : h ≤ cp := by omega
        have g1 : ¬ n = a := by omega
        have g2 : ¬ cp = a := by omega
        have b1 : (h : Int) ≤ (cp : Int) := by omega
        obtain ⟨bs, os, eA, k1⟩ := HR.out (by rw [HL.out]; omega)
        subst eA
        have PR : Hid (Rd w (some ⟨bs, os + a, none⟩) ((l.drop a).take (h - a))) := Lib.hid (Rd.piece HR.out a (h - a))
        have E1 := Lib.hid (wr_more (D := zs n) (m := l.map (gm c)) hah2 (by rw [MC.out]; exact hhn))
        clear k1
        go_wp2_with fail
        refine Qt.quiet_tail 16 (by kernel_rfl) (by kernel_rfl) ?_
        simp only [List.take_succ_cons, List.take_zero, List.drop_succ_cons, List.drop_zero]
        repeat (quiet_step (fail))
        refine wpQuiet_nil ?_
        rintro _ ⟨nq, rfl⟩
        have S6 := Lib.hid (S5.out.drewN (n := nq)); clear S5
        go_wp2_with fail
        refine (mul_at (by omega) (by omega) (S6.out.blk mem0) (by rw [wr_length, zs_len]; omega) (by rw [List.length_take, List.length_drop, HL.out]; omega) (H8.out.piece _ _) (wr_b8 (zs_b8 n) (BC.out.take _)) (by omega) (by omega) (by omega) (Srcs.ext S6.out mem0 PR.out)).mono ?_
        rintro e w7 ⟨rfl, hh⟩
        have h7 := S6.out.callN (N1 := []) hh; clear hh S6
        try simp only [List.nil_append, List.cons_append, List.append_eq, Int.toNat_natCast] at h7
        rw [map_piece, E1.out] at h7
        have S7 := Lib.hid h7; clear h7
        clear m2
        have m3 := HC.out _ S7.out.nil
        go_wp2_with fail
        go_roundw
        case rel => exact ⟨i + 1, h, by omega, by omega, by go_num, rfl, S7.out⟩
        case measure => simp [intOf]; omega
      · skip
        by_cases hv1 : (a : Int) < v
        · have hv2 : (n : Int) < v := by omega
          go_wp2_with fail
          go_roundw
          case rel => exact ⟨i + 1, a, by omega, by omega, by go_num, rfl, S5.out⟩
          case measure => simp [intOf]; omega
        · have hv2 : v ≤ (a : Int) := by omega
          go_wp2_with fail
          go_roundw
          case rel => exact ⟨i + 1, a, by omega, by omega, by go_num, rfl, S5.out⟩
          case measure => simp [intOf]; omega
    · have hx : n2 ≤ i ∨ 64 ≤ i := by omega
      clear hlt
      have c0 : (0 : Int) ≤ (c : Int) := by omega
      have c1 : (c : Int) < 256 := by omega
      have E0 : Hid (Wr.wr (zs n) 0 (l.map (gm c)) = l.map (gm c)) := Lib.hid (wr_all _ _ (by rw [zs_len, MC.out]))
      have E1 : Hid (Wr.wr (Wr.wr (zs n) 0 ((l.map (gm c)).take a)) a ((l.drop a).map (gm c)) = l.map (gm c)) := Lib.hid (by
        have := wr_more (D := zs n) (m := l.map (gm c)) ha (by rw [MC.out]; exact Nat.le_refl _)
        rw [List.take_of_length_le (i := n - a) (by rw [List.length_drop, MC.out]; exact Nat.le_refl _), List.take_of_length_le (i := n) (by rw [MC.out]; exact Nat.le_refl _), E0.out] at this
        rw [List.map_drop]; exact this)
      by_cases han : a = n
      case' pos =>
        have EA := Lib.hid han
        obtain rfl : n = a := han.symm
        clear han
        rw [List.take_of_length_le (by rw [MC.out]; exact Nat.le_refl _), E0.out] at S5
        by_cases hx1 : i < n2
        all_goals
          have hx2 : n2 ≤ i ∨ 64 ≤ (i : Int) := by omega
          clear hx
          by_cases g2 : cp = n
          all_goals
            go_wp2_with fail
            have S6 := Lib.hid S5.out.drew; clear S5
            go_region_held3 (fun _ => True) (trivial) (first
              | (go_at_call 14; refine (mul_zero c0 c1).mono ?_; rintro e w7 ⟨rfl, hh⟩; have h7 := S6.out.call hh; clear hh S6; (try simp only [List.nil_append, List.cons_append, List.append_eq, Int.toNat_natCast] at h7); have S7 := Lib.hid h7; clear h7)
              | (go_at_call 15; refine (same_st MC.out hn3 (S7.out.rd mem0) (S7.out.rd mem1)).mono ?_; rintro e w8 ⟨rfl, hh⟩; have h8 := S7.out.call hh; clear hh S7; (try simp only [List.nil_append, List.cons_append, List.append_eq, Int.toNat_natCast] at h8); have S8 := Lib.hid h8; clear h8))
      case' neg =>
        have han1 : a < n := by omega
        have hac : a ≤ cp := by omega
        have g1 : ¬ n = a := by omega
        have g2 : ¬ cp = a := by omega
        clear han
        obtain ⟨bs, os, eA, k1⟩ := HR.out (by rw [HL.out]; omega)
        subst eA
        have PR : Hid (Rd w (some ⟨bs, os + a, none⟩) (l.drop a)) := Lib.hid (by have := Rd.piece HR.out a (n - a); rw [List.take_of_length_le (by rw [List.length_drop, HL.out]; exact Nat.le_refl _)] at this; exact this)
        clear k1
        by_cases hx1 : i < n2
        all_goals
          have hx2 : n2 ≤ i ∨ 64 ≤ (i : Int) := by omega
          clear hx
          go_wp2_with fail
          have S6 := Lib.hid S5.out.drew; clear S5
          go_region_held3 (fun _ => True) (trivial) (first
            | (go_at_call 14; refine (mul_at c0 c1 (S6.out.blk mem0) (by rw [wr_length, zs_len]; omega) (by rw [List.length_drop, HL.out]) (H8.out.drop a) (wr_b8 (zs_b8 n) (BC.out.take a)) (by omega) (by omega) (by omega) (Srcs.ext S6.out mem0 PR.out)).mono ?_; rintro e w7 ⟨rfl, hh⟩; have h7 := S6.out.callN (N1 := []) hh; clear hh S6; (try simp only [List.nil_append, List.cons_append, List.append_eq, Int.toNat_natCast] at h7); rw [E1.out] at h7; have S7 := Lib.hid h7; clear h7)
            | (go_at_call 15; refine (same_st MC.out hn3 (S7.out.rd mem0) (S7.out.rd mem1)).mono ?_; rintro e w8 ⟨rfl, hh⟩; have h8 := S7.out.call hh; clear hh S7; (try simp only [List.nil_append, List.cons_append, List.append_eq, Int.toNat_natCast] at h8); have S8 := Lib.hid h8; clear h8))
      all_goals
        clear hx1 hx2 E0 E1 ha c0 c1
        try clear g1
        try clear PR
        clear g2
        have H8w := S8; clear S8
        go_wp2_with fail
        go_loopw [13] (fun vi wr => ∃ j : Nat, 8 * j ≤ n ∧ vi = .int .i64 (8 * (j : Int)) ∧ St w wr [] [bt bp (l.map (gm c)), bt bw (l.map (gm c))]) (fun vi _ => n + 8 - (intOf vi).toNat)
        case atStart => exact ⟨0, by omega, rfl, H8w.out⟩
        case round =>
          clear H8w
          obtain ⟨j, hj, rfl, hs⟩ := hrel
          have S9 := Lib.hid hs; clear hs
          by_cases hlt : 8 * j + 8 ≤ n
          · obtain ⟨P, HP⟩ : ∃ P, Hid ((l.drop (8 * j)).take 8 = P) := ⟨_, Lib.hid rfl⟩
            obtain ⟨M, HM⟩ : ∃ M, Hid (P.map (gm c) = M) := ⟨_, Lib.hid rfl⟩
            have PL : Hid (P.length = 8) := Lib.hid (by rw [← HP.out, List.length_take, List.length_drop, HL.out]; omega)
            have PB : Hid (B8 P) := Lib.hid (by rw [← HP.out]; exact H8.out.piece _ _)
            have PM : Hid (B8 M) := Lib.hid (by rw [← HM.out]; exact map_b8 hc)
            have PML : Hid (M.length = 8) := Lib.hid (by rw [← HM.out, List.length_map, PL.out])
            have EG : Hid (∀ k, k < 8 → P.getD k 0 = l.getD (8 * j + k) 0) := Lib.hid (fun k hk8 => by rw [← HP.out]; simp [hk8])
            have EM : Hid (∀ k, k < 8 → M.getD k 0 = (l.map (gm c)).getD (8 * j + k) 0) := Lib.hid (fun k hk8 => by rw [← HM.out, ← HP.out, map_piece]; simp [hk8])
            have j8 : 8 * (j : Int) + 8 ≤ (n : Int) := by omega
            go_wp2_with fail
            go_loopw [14, 15, 16] (fun vw vv vk wq => ∃ k : Nat, k ≤ 8 ∧ vk = .int .i64 k ∧ vw = .int .u64 ((W8 (P.take k) : Nat) : Int) ∧ vv = .int .u64 ((W8 (M.take k) : Nat) : Int) ∧ wq = wr) (fun _ _ vk _ => 8 - (intOf vk).toNat)
            case atStart => exact ⟨0, by omega, rfl, rfl, rfl, rfl⟩
            case round =>
              obtain ⟨k, hk, rfl, rfl, rfl, rfl⟩ := hrel
              by_cases hk8 : k < 8
              · obtain ⟨bs', os', eA, k1⟩ := (S9.out.ext HR.out) (by rw [HL.out]; omega)
                first | subst eA | (injection eA with eA; injection eA with e1 e2 _; subst e1 e2)
                have hxl : (l.getD (8 * j + k) 0) < 256 := H8.out.get (by rw [HL.out]; omega)
                have m1 := k1 (8 * j + k) (by rw [HL.out]; omega)
                have m2 := (S9.out.blk mem1).cellRow (i := 8 * j + k) (by rw [MC.out]; omega)
                have e1 := Lib.hid (W8_take_succ PB.out (k := k) (by rw [PL.out]; exact hk8))
                have e2 := Lib.hid (W8_take_succ PM.out (k := k) (by rw [PML.out]; exact hk8))
                have xlt := shl_lt hxl hk8
                have hyl : ((l.map (gm c)).getD (8 * j + k) 0) < 256 := BC.out.get (by rw [MC.out]; omega)
                have ylt := shl_lt hyl hk8
                have w1 := W8_take_lt PB.out k hk
                have w2 := W8_take_lt PM.out k hk
                rw [EG.out k hk8] at e1
                rw [EM.out k hk8] at e2
                generalize l.getD (8 * j + k) 0 = x at *
                generalize (l.map (gm c)).getD (8 * j + k) 0 = y at *
                clear k1
                have c1 : (8 : Int) * (j : Int) + (k : Int) < (n : Int) := by omega
                have c0 : (0 : Int) ≤ 8 * (j : Int) + (k : Int) := by omega
                have c2 : (8 * (j : Int) + (k : Int)).toNat = 8 * j + k := by omega
                go_wp2_with fail
                have f1 : IntKind.u64.wrap ((x : Int) * 2 ^ (8 * k)) = ((x * 2 ^ (8 * k) : Nat) : Int) := by
                  rw [show (x : Int) * 2 ^ (8 * k) = ((x * 2 ^ (8 * k) : Nat) : Int) from by simp]; exact Bt.wrap_u64 _ (by omega) (by omega)
                have f2 : IntKind.u64.wrap ((y : Int) * 2 ^ (8 * k)) = ((y * 2 ^ (8 * k) : Nat) : Int) := by
                  rw [show (y : Int) * 2 ^ (8 * k) = ((y * 2 ^ (8 * k) : Nat) : Int) from by simp]; exact Bt.wrap_u64 _ (by omega) (by omega)
                rw [f1, f2, Bt.or64 w1 xlt, Bt.or64 w2 ylt, e1.out, e2.out]
                refine ⟨⟨k + 1, by omega, by simp, rfl, rfl, trivial⟩, ?_⟩
                show 8 - ((k : Int) + 1).toNat < 8 - (k : Int).toNat
                omega
              · obtain rfl : k = 8 := by omega
                rw [List.take_of_length_le (by rw [PL.out]; exact Nat.le_refl _), List.take_of_length_le (by rw [PML.out]; exact Nat.le_refl _)]
                go_wp2_with fail
                refine (word_w8 c P _ hc PB.out PL.out).mono ?_
                rintro e w10 ⟨rfl, hh⟩
                have h10 := S9.out.call hh; clear hh S9
                try simp only [List.nil_append, List.cons_append, List.append_eq, Int.toNat_natCast] at h10
                rw [HM.out]
                have S10 := Lib.hid h10; clear h10
                go_wp2_with fail
                refine ⟨⟨j + 1, by omega, by simp; omega, S10.out⟩, ?_⟩
                show n + 8 - (8 * (j : Int) + 8).toNat < n + 8 - (8 * (j : Int)).toNat
                omega
          · go_wp2_with fail
            go_ret
            exact ⟨rfl, S9.out.below⟩

end Go.Proofs.Ytcjcolmhhbnmgaa.Sl
