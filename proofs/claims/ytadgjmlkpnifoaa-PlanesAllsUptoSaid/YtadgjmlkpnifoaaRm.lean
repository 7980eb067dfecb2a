/- Layer 8: the document's product of words (culletref03.Mul) and its Quarters. -/
import Derived.Test.YtadgjmlkpnifoaaQs
import Derived.Test.YtadgjmlkpnifoaaRh
namespace Go.Proofs.Ytadgjmlkpnifoaa.Pq
set_option linter.unusedSimpArgs false
set_option linter.unusedVariables false
open Go Go.RowKit Go.Proofs.Ytadgjmlkpnifoaa Go.Proofs.Ytadgjmlkpnifoaa.Mm Go.Proofs.Ytadgjmlkpnifoaa.Gh Go.Proofs.Ytadgjmlkpnifoaa.Wr Go.Proofs.Ytadgjmlkpnifoaa.St

theorem wrap_u32 (n : Int) (h0 : 0 ≤ n) (h1 : n < 4294967296) : IntKind.u32.wrap n = n := by
  simp [IntKind.wrap, IntKind.bits, IntKind.signed]; omega
theorem two32 : (2 : Int) ^ 32 = 4294967296 := by decide
theorem ok32 (n : Int) (h0 : 0 ≤ n) (h1 : n < 2 ^ 32) : IntKind.u32.wrap n = n := wrap_u32 n h0 (by rw [two32] at h1; exact h1)
theorem xor32 {a b : Nat} (ha : a < 2 ^ 32) (hb : b < 2 ^ 32) : bits .xor .u32 (a : Int) (b : Int) = ((a ^^^ b : Nat) : Int) := Bt.bits_all .u32 32 (by decide) ok32 a b ha hb
theorem and32 {a b : Nat} (ha : a < 2 ^ 32) (hb : b < 2 ^ 32) : bits .and .u32 (a : Int) (b : Int) = ((a &&& b : Nat) : Int) := (bits_nat .u32 32 (by decide) ok32 a b ha hb).1
theorem low16 (x : Nat) (h : x < 65536) : Go.bits .and .u16 (x : Int) 1 = ((x % 2 : Nat) : Int) := by
  rw [show (1 : Int) = ((1 : Nat) : Int) from rfl, Bt.and16 h (by decide), Nat.and_one_is_mod]
theorem low32 (x : Nat) (h : x < 2 ^ 32) : Go.bits .and .u32 (x : Int) 1 = ((x % 2 : Nat) : Int) := by
  rw [show (1 : Int) = ((1 : Nat) : Int) from rfl, and32 h (by decide), Nat.and_one_is_mod]
theorem cpow (a n : Nat) : (a : Int) * 2 ^ n = ((a * 2 ^ n : Nat) : Int) := by simp
theorem cdiv (a n : Nat) : (a : Int) / 2 ^ n = ((a / 2 ^ n : Nat) : Int) := by simp
theorem pow_le16 {n : Nat} (h : n ≤ 16) : 2 ^ n ≤ 65536 := by
  have := Nat.pow_le_pow_right (n := 2) (by decide) h
  simpa using this

set_option maxRecDepth 100000 in
set_option maxHeartbeats 2000000 in
theorem rmul_calls (a b : Nat) (w : World) (ha : a < 65536) (hb : b < 65536) :
    Calls Try.prog 44 #[.int .u16 a, .int .u16 b] w fun e w' => e = .returned (.int .u16 ((gm a b : Nat) : Int)) ∧ w = w' := by
  go_enter Try.func44, Try.ntmps44
  go_wp2
  go_loop [5, 6] (fun vp vi => ∃ i : Nat, i ≤ 16 ∧ vi = .int .i64 i ∧ vp = .int .u32 ((Rh.clm a b i : Nat) : Int)) (fun _ vi => 16 - (intOf vi).toNat)
  case atStart => exact ⟨0, by omega, rfl, rfl⟩
  case round =>
    obtain ⟨i, hi, rfl, rfl⟩ := hrel
    by_cases hlt : i < 16
    · have hq : b / 2 ^ i < 65536 := Nat.lt_of_le_of_lt (Nat.div_le_self _ _) hb
      have l1 := low16 _ hq
      rw [← cdiv] at l1
      have c1 : IntKind.u64.wrap (i : Int) = i := Bt.wrap_u64 _ (by omega) (by omega)
      have hc := Rh.clm_lt (b := b) ha i hi
      have hp8 := pow_le16 hi
      have hap : a * 2 ^ i ≤ 65535 * 65536 := Nat.mul_le_mul (by omega) hp8
      have hc2 : Rh.clm a b i < 2 ^ 32 := Nat.lt_of_lt_of_le hc (Nat.pow_le_pow_right (by decide) (by omega))
      have c0 : IntKind.u32.wrap (a : Int) = a := wrap_u32 _ (by omega) (by omega)
      have c2 : IntKind.u32.wrap ((a : Int) * 2 ^ i) = (a : Int) * 2 ^ i := by rw [cpow]; exact wrap_u32 _ (by omega) (by omega)
      have c3 : Go.bits .xor .u32 ((Rh.clm a b i : Nat) : Int) ((a : Int) * 2 ^ i) = ((Rh.clm a b i ^^^ (a * 2 ^ i) : Nat) : Int) := by rw [cpow]; exact xor32 hc2 (by omega)
      clear hc hc2 hap hp8 hq
      by_cases hbit : b / 2 ^ i % 2 = 1
      · rw [hbit] at l1
        have hs : Hid (Rh.clm a b (i + 1) = Rh.clm a b i ^^^ (a * 2 ^ i)) := if_pos hbit
        clear hbit
        go_wp2
        go_round
        case rel => exact ⟨i + 1, by omega, by go_num, by rw [hs.out]⟩
        case measure => simp [intOf]; omega
      · rw [show b / 2 ^ i % 2 = 0 from by omega] at l1
        have hs : Hid (Rh.clm a b (i + 1) = Rh.clm a b i) := if_neg hbit
        clear hbit
        go_wp2
        go_round
        case rel => exact ⟨i + 1, by omega, by go_num, by rw [hs.out]⟩
        case measure => simp [intOf]; omega
    · obtain rfl : i = 16 := by omega
      clear hlt hi
      have H := Lib.hid (Rh.ref_eq ha hb)
      have hc := Rh.clm_lt (b := b) ha 16 (by decide)
      generalize Rh.clm a b 16 = p0 at *
      go_wp2
      go_loop [5, 7] (fun vp vi => ∃ i p : Nat, 15 ≤ i ∧ i ≤ 30 ∧ vi = .int .i64 i ∧ vp = .int .u32 p ∧ p < 2 ^ 32 ∧ gm a b = Rh.rd (i - 15) p) (fun _ vi => (intOf vi).toNat)
      case atStart => exact ⟨30, p0, by omega, by omega, rfl, rfl, hc, H.out.symm⟩
      case round =>
        clear H hc
        obtain ⟨i, p, h7, h14, rfl, rfl, hp, hr⟩ := hrel
        have HR := Lib.hid hr
        clear hr
        by_cases h8 : 16 ≤ i
        · have hq : p / 2 ^ i < 2 ^ 32 := Nat.lt_of_le_of_lt (Nat.div_le_self _ _) hp
          have l1 := low32 _ hq
          rw [← cdiv] at l1
          have c1 : IntKind.u64.wrap (i : Int) = i := Bt.wrap_u64 _ (by omega) (by omega)
          have c2 : IntKind.u64.wrap ((i : Int) - 16) = (i : Int) - 16 := Bt.wrap_u64 _ (by omega) (by omega)
          have c3 : ((i : Int) - 16).toNat = i - 16 := by omega
          have c3' : 0 ≤ (i : Int) - 16 := by omega
          have c3'' : (i : Int) - 16 ≤ 64 := by omega
          have hp6 : 2 ^ (i - 16) ≤ 2 ^ 14 := Nat.pow_le_pow_right (by decide) (by omega)
          have c4 : IntKind.u32.wrap (65581 * 2 ^ (i - 16)) = 65581 * 2 ^ (i - 16) := by
            have := cpow 65581 (i - 16)
            rw [show ((65581 : Nat) : Int) = 65581 from rfl] at this
            rw [this]; exact wrap_u32 _ (by omega) (by omega)
          have c5 : Go.bits .xor .u32 (p : Int) (65581 * 2 ^ (i - 16)) = ((p ^^^ (65581 * 2 ^ (i - 16)) : Nat) : Int) := by
            have := cpow 65581 (i - 16)
            rw [show ((65581 : Nat) : Int) = 65581 from rfl] at this
            rw [this]; exact xor32 (by omega) (by omega)
          have hs := Rh.rs_lt h8 h14 hp
          have HS : Hid (gm a b = Rh.rd (i - 1 - 15) (Rh.rs i p)) := by
            have := HR.out
            rw [show i - 15 = (i - 1 - 15) + 1 from by omega] at this
            rw [this]
            show Rh.rd _ (Rh.rs (i - 1 - 15 + 16) p) = _
            rw [show i - 1 - 15 + 16 = i from by omega]
          clear hq hp6
          by_cases hbit : p / 2 ^ i % 2 = 1
          · rw [hbit] at l1
            have he : Rh.rs i p = p ^^^ (65581 * 2 ^ (i - 16)) := if_pos hbit
            rw [he] at hs HS
            clear hbit he
            go_wp2
            go_round
            case rel => exact ⟨i - 1, _, by omega, by omega, by go_num, rfl, hs, HS.out⟩
            case measure => simp [intOf]; omega
          · rw [show p / 2 ^ i % 2 = 0 from by omega] at l1
            have he : Rh.rs i p = p := if_neg hbit
            rw [he] at hs HS
            clear hbit he
            go_wp2
            go_round
            case rel => exact ⟨i - 1, _, by omega, by omega, by go_num, rfl, hs, HS.out⟩
            case measure => simp [intOf]; omega
        · obtain rfl : i = 15 := by omega
          go_wp2
          go_ret
          refine ⟨?_, rfl⟩
          have hg := gm_lt b ha
          have := HR.out
          rw [show (15 - 15 : Nat) = 0 from rfl] at this
          rw [this]
          have hpb : p < 65536 := by rw [this] at hg; exact hg
          have e : IntKind.u16.wrap (p : Int) = p := Bt.wrap_u16 _ (by omega) (by omega)
          refine congrArg (fun x => Ending.returned (Value.int .u16 x)) (a₁ := IntKind.u16.wrap (p : Int)) ?_
          exact e

theorem qr_take {c n k : Nat} (h : k < 16) : (qr c n).take (k + 1) = (qr c n).take k ++ [gm c (k * 16 ^ n)] := take_snoc (by simp [qr, h])

set_option maxRecDepth 100000 in
set_option maxHeartbeats 4000000 in
theorem rquarters_st (c : Nat) (w : World) (hc : c < 65536) : Calls Try.prog 39 #[.int .u16 (c : Int)] w (QuR w c) := by
  have S0 := Lib.hid (St.start w)
  go_enter Try.func39, Try.ntmps39
  go_wp2_with fail
  go_loopw [3, 4, 5] (fun vl vo vi wr => ∃ (n : Nat) (ds : List Sd) (Gs Gt : List Ent), n ≤ 4 ∧ vi = .int .i64 n ∧ vo = .int .i64 ((16 ^ n : Nat) : Int) ∧ ds.length = n ∧ GrowV es 36 vl ds Gt ∧ Rows ds (qs c n) Gs ∧ St w wr [] (Gt ++ Gs)) (fun _ _ vi _ => 4 - (intOf vi).toNat)
  case atStart => exact ⟨0, [], [], [], by omega, rfl, rfl, rfl, GrowV.nil, Rows.nil, S0.out⟩
  case round =>
    clear S0
    obtain ⟨n, ds, Gs, Gt, hn, rfl, rfl, hdl, hgt, hrows, hs⟩ := hrel
    have S2 := Lib.hid hs; have HRW := Lib.hid hrows; have HDL := Lib.hid hdl; have HGT := Lib.hid hgt; clear hs hrows hdl hgt
    by_cases hlt : n < 4
    · have hM : 16 ^ n ≤ 4096 := by
        have := Nat.pow_le_pow_right (n := 16) (by decide) (show n ≤ 3 by omega)
        exact this
      have HQT : Hid (∀ k, k < 16 → (qr c n).take (k + 1) = (qr c n).take k ++ [gm c (k * 16 ^ n)]) := Lib.hid (fun k hk => qr_take hk)
      have HP : Hid (16 ^ (n + 1) = 16 * 16 ^ n) := Lib.hid (by rw [Nat.pow_succ, Nat.mul_comm])
      obtain ⟨M, HM⟩ : ∃ M, Hid (16 ^ n = M) := ⟨_, Lib.hid rfl⟩
      rw [HM.out] at hM HQT HP ⊢
      have d1 : decide ((n : Int) < 4) = true := by simp; omega
      go_wp2_with fail
      go_loopw [6, 7] (fun v vk wq => ∃ (k : Nat) (G : List Ent), k ≤ 16 ∧ vk = .int .i64 k ∧ GrowV e16 23 v ((qr c n).take k) G ∧ St w wq [] (G ++ (Gt ++ Gs))) (fun _ vk _ => 16 - (intOf vk).toNat)
      case atStart => exact ⟨0, [], by omega, rfl, GrowV.nil, S2.out⟩
      case round =>
        clear S2 d1
        obtain ⟨k, G, hk, rfl, hg, hs⟩ := hrel
        have S3 := Lib.hid hs; have HG := Lib.hid hg; clear hs hg
        by_cases hk16 : k < 16
        · have HT := Lib.hid (HQT.out k hk16)
          have hY : k * M ≤ 15 * 4096 := Nat.mul_le_mul (by omega) hM
          have hc1 : (k : Int) * (M : Int) = ((k * M : Nat) : Int) := by simp
          have HLn : Hid (((qr c n).take k).length = k) := Lib.hid (by rw [List.length_take, qr_length]; omega)
          obtain ⟨Y, HY⟩ : ∃ Y, Hid (k * M = Y) := ⟨_, Lib.hid rfl⟩
          rw [HY.out] at HT hY hc1
          have f1 : IntKind.i64.wrap ((k : Int) * (M : Int)) = (Y : Int) := by rw [hc1]; exact Bt.wrap_i64 _ (by omega) (by omega)
          have f2 : wrap64 ((k : Int) * (M : Int)) = (Y : Int) := by rw [hc1]; unfold wrap64; omega
          have f3 : IntKind.u16.wrap (Y : Int) = (Y : Int) := Bt.wrap_u16 _ (by omega) (by omega)
          have f4 : (Y : Int) % 65536 = (Y : Int) := by omega
          have MC : Hid (∀ W : World, Calls Try.prog 44 #[.int .u16 (c : Int), .int .u16 (Y : Int)] W fun e w' => e = .returned (.int .u16 ((gm c Y : Nat) : Int)) ∧ W = w') := Lib.hid (fun W => rmul_calls c Y W hc (by omega))
          obtain ⟨y, Hy⟩ : ∃ y, Hid (gm c Y = y) := ⟨_, Lib.hid rfl⟩
          rw [Hy.out] at HT MC
          clear hY
          have k1 : (k : Int) < 16 := by omega
          go_wp2_with fail
          refine (MC.out _).mono ?_
          rintro e _ ⟨rfl, rfl⟩
          clear f1 f2 f3 f4 hc1
          go_wp2_with ((with_reducible refine at_slot (N := 24) rfl ?_); refine append_v (enc := e16) (N := Gt ++ Gs) (G := G) rfl _ _ _ rfl 0 2 Try.underlying36 info_u16 rfl (fun _ => rfl) _ _ rfl (S3.out.skip (t := 23) (c := cellsV e16 [y])) HG.out (some ⟨wr.heap.size, 0, none⟩) 1 1 [y] rfl rfl (RdV.of_blk (Blk.new wr _ _)) (by rw [HLn.out]; show (k + 1) * 2 ≤ _; omega) (by rw [HLn.out]; show k + 1 ≤ _; unfold maxLen; omega) ?_; intro v' w4 G' h4 hg' hz; have HG' := Lib.hid hg'; clear hg' hz HG; (try simp only [World.size_alloc, List.nil_append, List.cons_append, List.append_eq] at h4); have S4 := Lib.hid h4; clear h4 S3)
          refine ⟨⟨k + 1, G', by omega, by simp, ?_, S4.out⟩, ?_⟩
          · rw [HT.out]; exact HG'.out
          · simp [intOf]; omega
        · obtain rfl : k = 16 := by omega
          rw [List.take_of_length_le (by rw [qr_length]; exact Nat.le_refl _)] at HG
          obtain ⟨A1, c1, rfl⟩ := HG.out.shape
          rw [qr_length] at HG ⊢
          have f1 : IntKind.i64.wrap (16 * (M : Int)) = ((16 * M : Nat) : Int) := by rw [Bt.wrap_i64 _ (by omega) (by omega)]; omega
          have f2 : wrap64 (16 * (M : Int)) = ((16 * M : Nat) : Int) := by unfold wrap64; omega
          go_wp2_with ((with_reducible refine at_slot (N := 28) rfl ?_); refine append_v (enc := es) (N := G ++ Gs) (G := Gt) rfl _ _ _ rfl ⟨none, 0, 0⟩ 24 Try.underlying34 info_ws rfl (fun _ => rfl) _ _ rfl ((S3.out.skip (t := 36) (c := cellsV es [⟨A1, 16, c1⟩])).perm (List.perm_append_comm_assoc _ _ _)) HGT.out (some ⟨wr.heap.size, 0, none⟩) 1 1 [⟨A1, 16, c1⟩] rfl rfl (RdV.of_blk (Blk.new wr _ _)) (by rw [HDL.out]; show (n + 1) * 24 ≤ _; omega) (by rw [HDL.out]; show n + 1 ≤ _; unfold maxLen; omega) ?_; intro v' w4 Gt' h4 hg' hz; have HGT' := Lib.hid hg'; clear hg' hz HGT; (try simp only [World.size_alloc, List.nil_append, List.cons_append, List.append_eq] at h4); have S4 := Lib.hid h4; clear h4 S3)
          refine ⟨⟨n + 1, ds ++ [(⟨A1, 16, c1⟩ : Sd)], G ++ Gs, Gt', by omega, by simp, by rw [HP.out]; simp, by simp [HDL.out], HGT'.out, ?_, S4.out⟩, ?_⟩
          · rw [qs_succ]; exact HRW.out.snoc (d := ⟨A1, 16, c1⟩) (qr_length c n).symm (port_grow HG.out)
          · simp [intOf]; omega
    · obtain rfl : n = 4 := by omega
      go_wp2_with fail
      go_ret
      obtain ⟨A, cp, rfl⟩ := HGT.out.shape
      rw [HDL.out]
      exact ⟨_, _, _, rfl, PortL.of HGT.out HRW.out (fun e he => by simp [he]) (fun e he => by simp [he]), S2.out⟩

end Go.Proofs.Ytadgjmlkpnifoaa.Pq
