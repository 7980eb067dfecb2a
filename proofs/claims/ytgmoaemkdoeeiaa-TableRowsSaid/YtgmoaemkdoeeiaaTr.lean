/- The law TableRows of layer 5: its walk. -/
import Derived.Test.YtgmoaemkdoeeiaaAp
import Derived.Test.YtgmoaemkdoeeiaaH5
import Derived.Test.YtgmoaemkdoeeiaaR3
import Derived.Test.YtgmoaemkdoeeiaaKk
import Derived.Deep.RegionHeld3
namespace Go.Proofs.Ytgmoaemkdoeeiaa.L5t
set_option linter.unusedSimpArgs false
set_option linter.unusedVariables false
open Go Go.RowKit Go.Proofs.Ytgmoaemkdoeeiaa Go.Proofs.Ytgmoaemkdoeeiaa.Mm Go.Proofs.Ytgmoaemkdoeeiaa.Wr Go.Proofs.Ytgmoaemkdoeeiaa.Gf Go.Proofs.Ytgmoaemkdoeeiaa.St Go.Proofs.Ytgmoaemkdoeeiaa.Tk

theorem row_any {b : Nat} {c : Int} {w : World} (h0 : 0 ≤ c) (hc : c < 256) (ht : Blk w b 52 (row .u8 tabL)) : Calls Try.prog 19 #[.pointer (some ⟨b, 0, none⟩), .int .u8 c] w fun e w' => ∃ r, e = .returned (.tuple #[.slice (some ⟨r, 0, none⟩) 256 256, .int .i64 0]) ∧ St w w' [] [bt r (rowOf c.toNat)] := by
  obtain ⟨c, rfl⟩ := Int.eq_ofNat_of_zero_le h0
  exact row_at b c w ht (by omega)
theorem rrow_st {c : Int} {w : World} (h0 : 0 ≤ c) (hc : c < 256) : Calls Try.prog 23 #[.int .u8 c] w fun e w' => ∃ r, e = .returned (.slice (some ⟨r, 0, none⟩) 256 256) ∧ St w w' [] [bt r (rowOf c.toNat)] := by
  obtain ⟨c, rfl⟩ := Int.eq_ofNat_of_zero_le h0
  exact (R2.row_calls c w (by omega)).mono fun _ _ ⟨he, ht, hb⟩ => ⟨_, he, .of_made hb ht (Nat.le_refl _)⟩
theorem prod3_st {b c : Nat} {w : World} (hc : c < 256) (ht : Blk w b 52 (row .u8 tabL)) : Calls Try.prog 21 #[.pointer (some ⟨b, 0, none⟩), .int .u8 (c : Int), .int .u8 3] w fun e w' => e = .returned (.int .u8 ((gm c 3 : Nat) : Int)) ∧ St w w' [] [] :=
  (product_at b c 3 w ht hc (by decide)).mono fun _ _ ⟨he, hw⟩ => ⟨he, by rw [← hw]; exact St.start w⟩
theorem rmul3_st {c : Nat} {w : World} (hc : c < 256) : Calls Try.prog 25 #[.int .u8 (c : Int), .int .u8 3] w fun e w' => e = .returned (.int .u8 ((gm c 3 : Nat) : Int)) ∧ St w w' [] [] :=
  (R2.mul_calls c 3 w hc (by decide)).mono fun _ _ ⟨he, hw⟩ => ⟨he, by rw [← hw]; exact St.start w⟩
theorem zeros4 (w : World) : Calls Try.prog 13 #[.int .i64 4] w fun e w' => ∃ b, e = .returned (.slice (some ⟨b, 0, none⟩) 4 4) ∧ St w w' [] [bt b (zs 4)] := zeros_st (n := 4) (by decide)
theorem m1234 (x : Nat) : [1, 2, 3, 4].map (gm x) = [gm x 1, gm x 2, gm x 3, gm x 4] := rfl
theorem getD_some {l : List Nat} {j : Nat} (h : j < l.length) : l[j]? = some (l.getD j 0) := by simp [h]
abbrev rw3 (l : List Nat) (k : Nat) (r : List Nat) : Prop := r = rowOf (l.getD (k / 3) 0)

set_option maxRecDepth 100000 in
set_option maxHeartbeats 20000000 in
theorem rows_walk (A : Option Addr) (n cp : Nat) (l : List Nat) (w : World) (h : (Kk.kSlice Kk.kByte 1).ok w.heap.size w [.slice A n cp] l) :
    Calls Try.prog 9 #[.slice A n cp] w fun e w' => e = .returned (.bool true) ∧ Below w.heap.size w w' := by
  obtain ⟨hn, hn2, hncp, hr, h8, _⟩ := open_bytes h
  clear h
  have HN := Lib.hid hn; have HR := Lib.hid hr; have H8 := Lib.hid h8
  clear hn hr h8
  have S0 := Lib.hid (St.start w)
  go_enter Try.func9, Try.ntmps9
  go_wp2_with fail
  refine (awake_st _).mono ?_
  rintro e w1 ⟨kb, rfl, hh⟩
  have h1 := S0.out.call hh; clear hh S0
  try simp only [List.nil_append, List.cons_append, List.append_eq, Int.toNat_natCast] at h1
  have S1 := Lib.hid h1; clear h1
  go_wp2_with fail
  refine (new_st _).mono ?_
  rintro e w2 ⟨ub, rfl, hh⟩
  have h2 := S1.out.call hh; clear hh S1
  try simp only [List.nil_append, List.cons_append, List.append_eq, Int.toNat_natCast] at h2
  have S2 := Lib.hid h2; clear h2
  have ST := S2; clear S2
  by_cases h40 : 40 < n
  case' pos =>
    obtain ⟨m, HM⟩ : ∃ m, Hid (m = 40) := ⟨40, Lib.hid rfl⟩
    have hm40 : m ≤ 40 := by rw [HM.out]; exact Nat.le_refl _
    have hmn : m ≤ n := by rw [HM.out]; omega
    obtain ⟨l2, hl2⟩ : ∃ l2, l2 = l.take m := ⟨_, rfl⟩
    have HL2 : Hid (l2.length = m) := Lib.hid (by rw [hl2, List.length_take, HN.out]; omega)
    have HR2 : Hid (Rd w A l2) := Lib.hid (by
      have := HR.out.cut cp 0 m (by rw [HN.out]; exact hncp)
      rw [cutA_zero, List.drop_zero] at this
      rw [hl2]; exact this)
    have H82 : Hid (B8 l2) := Lib.hid (by rw [hl2]; exact H8.out.take m)
    have h40' : (40 : Int) < (n : Int) := by omega
    clear hl2 HN HR H8
    go_wp2_with (first
      | ((with_reducible refine at_slot (N := 30) rfl ?_); refine slice_law rfl 23 5 Try.underlying23 (by kernel_rfl) _ _ _ rfl A n cp 0 m rfl 0 40 (.inl ⟨rfl, rfl⟩) (.inr ⟨rfl, by rw [HM.out]; rfl⟩) (by omega) ?_; rw [cutA_zero])
      | ((with_reducible refine at_slot (N := 31) rfl ?_); refine ev rfl (bslice_run _ 5 1 _ (row .u8 [3]) rfl (fun _ => by kernel_rfl)) ?_; have h3 := ST.out.alloc 5 (row .u8 [3]); (try simp only [World.size_alloc, List.nil_append, List.cons_append, List.append_eq] at h3); have S3 := Lib.hid h3; clear h3 ST)
      | ((with_reducible refine at_slot (N := 33) rfl ?_); refine append_on rfl _ _ rfl _ 1 [3] [3] rfl rfl S3.out (Nat.le_refl _) (by decide) (fun x hx => by rw [List.mem_singleton] at hx; subst hx; decide) rfl A m _ l2 rfl HL2.out (S3.out.ext HR2.out) H82.out (by omega) ?_; intro cb D w4 q1 q2 q3 q4 h4; have Q1 := Lib.hid q1; have Q4 := Lib.hid q4; clear q1 q2 q3 q4; (try simp only [World.size_alloc, List.nil_append, List.cons_append, List.append_eq] at h4); have S4 := Lib.hid h4; clear h4 S3))
    obtain ⟨wQ, rfl⟩ : ∃ wQ, wQ = w4 := ⟨_, rfl⟩
    have SQ := S4; clear S4
  case' neg =>
    obtain ⟨m, rfl⟩ : ∃ m, m = n := ⟨_, rfl⟩
    obtain ⟨l2, rfl⟩ : ∃ l2, l2 = l := ⟨_, rfl⟩
    have hm40 : m ≤ 40 := by omega
    have HL2 := HN; have HR2 := HR; have H82 := H8
    have h40' : (m : Int) ≤ 40 := by omega
    clear HN HR H8
    go_wp2_with (first
      | ((with_reducible refine at_slot (N := 31) rfl ?_); refine ev rfl (bslice_run _ 5 1 _ (row .u8 [3]) rfl (fun _ => by kernel_rfl)) ?_; have h5 := ST.out.alloc 5 (row .u8 [3]); (try simp only [World.size_alloc, List.nil_append, List.cons_append, List.append_eq] at h5); have S5 := Lib.hid h5; clear h5 ST)
      | ((with_reducible refine at_slot (N := 33) rfl ?_); refine append_on rfl _ _ rfl _ 1 [3] [3] rfl rfl S5.out (Nat.le_refl _) (by decide) (fun x hx => by rw [List.mem_singleton] at hx; subst hx; decide) rfl A m _ l2 rfl HL2.out (S5.out.ext HR2.out) H82.out (by omega) ?_; intro cb D w6 q1 q2 q3 q4 h6; have Q1 := Lib.hid q1; have Q4 := Lib.hid q4; clear q1 q2 q3 q4; (try simp only [World.size_alloc, List.nil_append, List.cons_append, List.append_eq] at h6); have S6 := Lib.hid h6; clear h6 S5))
    obtain ⟨wQ, rfl⟩ : ∃ wQ, wQ = w6 := ⟨_, rfl⟩
    have SQ := S6; clear S6
  all_goals
    have HLM : Hid (([3] ++ l2).length = 1 + m) := Lib.hid (by rw [List.length_append, HL2.out]; rfl)
    have H83 : Hid (B8 ([3] ++ l2)) := Lib.hid (B8.append (fun x hx => by rw [List.mem_singleton] at hx; subst hx; decide) H82.out)
    obtain ⟨L, hL⟩ : ∃ L, [3] ++ l2 = L := ⟨_, rfl⟩
    rw [hL] at HLM H83 Q4
    obtain ⟨M, hM⟩ : ∃ M, 1 + m = M := ⟨_, rfl⟩
    have hM41 : M ≤ 41 := by omega
    rw [hM] at HLM Q4 Q1 ⊢
    clear hL hM
    go_loopw [5, 6] (fun v vi wr => ∃ (i : Nat) (ds : List Sd) (Gt : List Ent) (Gs : List (List Ent)), i ≤ M ∧ vi = .int .i64 i ∧ ds.length = 3 * i ∧ GrowV es 23 v ds Gt ∧ Fam (3 * i) (Own e8 5 ds (rw3 L)) Gs ∧ St w wr [] (Gt ++ (Gs.flatten ++ [bt cb D, tk ub, tk kb]))) (fun _ vi _ => M - (intOf vi).toNat)
    case atStart => exact ⟨0, [], [], [], by omega, rfl, rfl, GrowV.nil, Fam.nil _, SQ.out⟩
    case round =>
      clear SQ
      obtain ⟨i, ds, Gt, Gs, hi, rfl, hdl, hgt, hfam, hs⟩ := hrel
      have S4 := Lib.hid hs; have HDL := Lib.hid hdl; have HGT := Lib.hid hgt; have HF := Lib.hid hfam; clear hs hdl hgt hfam
      by_cases hlt : i < M
      · have i1 : (i : Int) < (M : Int) := by omega
        have HCC : Hid (∀ w' N', St w w' [] N' → bt cb D ∈ N' → w'.cell? ⟨cb, i, none⟩ = some (.int .u8 ((L.getD i 0 : Nat) : Int))) := Lib.hid (fun w' N' hs hm => by
          obtain ⟨b', o', e', k'⟩ := (hs.rdTake hm Q4.out) (by rw [HLM.out]; omega)
          injection e' with e'; injection e' with e1 e2 _; subst e1 e2
          have := k' i (by rw [HLM.out]; exact hlt)
          rw [Nat.zero_add] at this
          exact this)
        have hx := H83.out.get (i := i) (by rw [HLM.out]; exact hlt)
        obtain ⟨x, HX⟩ : ∃ x, Hid (L.getD i 0 = x) := ⟨_, Lib.hid rfl⟩
        rw [HX.out] at HCC hx
        have hxi : (x : Int) < 256 := by omega
        have HTB : Hid (∀ w' N', St w w' [] (N' ++ (Gt ++ (Gs.flatten ++ [bt cb D, tk ub, tk kb]))) → Blk w' kb 52 (row .u8 tabL) ∧ Blk w' ub 52 (row .u8 tabL)) := Lib.hid (fun w' N' hs => ⟨hs.blk (by simp), hs.blk (by simp)⟩)
        have mc0 := HCC.out _ _ S4.out (by simp)
        go_wp2_with fail
        refine (row_any (by omega) (by omega) (HTB.out _ [] S4.out).1).mono ?_
        rintro e w5 ⟨r1, rfl, hh⟩
        have h5 := S4.out.call hh; clear hh S4
        try simp only [List.nil_append, List.cons_append, List.append_eq, Int.toNat_natCast] at h5
        have mc1 := HCC.out _ _ h5 (by simp)
        have S5 := Lib.hid h5; clear h5
        clear mc0
        go_wp2_with fail
        refine (row_any (by omega) (by omega) (HTB.out _ [_] S5.out).1).mono ?_
        rintro e w6 ⟨r2, rfl, hh⟩
        have h6 := S5.out.call hh; clear hh S5
        try simp only [List.nil_append, List.cons_append, List.append_eq, Int.toNat_natCast] at h6
        have mc2 := HCC.out _ _ h6 (by simp)
        have S6 := Lib.hid h6; clear h6
        clear mc1
        go_wp2_with fail
        refine (row_any (by omega) (by omega) (HTB.out _ [_, _] S6.out).2).mono ?_
        rintro e w7 ⟨r3, rfl, hh⟩
        have h7 := S6.out.call hh; clear hh S6
        try simp only [List.nil_append, List.cons_append, List.append_eq, Int.toNat_natCast] at h7
        have S7 := Lib.hid h7; clear h7
        clear mc2
        go_wp2_with ((with_reducible refine at_slot (N := 82) rfl ?_); refine append_v (enc := es) (N := ([[bt r1 (rowOf x)], [bt r2 (rowOf x)], [bt r3 (rowOf x)]] : List (List Ent)).reverse.flatten ++ (Gs.flatten ++ [bt cb D, tk ub, tk kb])) (G := Gt) rfl _ _ _ rfl ⟨none, 0, 0⟩ 24 Try.underlying41 info_ap51 rfl (fun _ => rfl) _ _ rfl ((S7.out.skip (t := 23) (c := cellsV es [⟨some ⟨r1, 0, none⟩, 256, 256⟩, ⟨some ⟨r2, 0, none⟩, 256, 256⟩, ⟨some ⟨r3, 0, none⟩, 256, 256⟩])).perm (front_perm _ _ _)) HGT.out (some ⟨w7.heap.size, 0, none⟩) 3 3 [⟨some ⟨r1, 0, none⟩, 256, 256⟩, ⟨some ⟨r2, 0, none⟩, 256, 256⟩, ⟨some ⟨r3, 0, none⟩, 256, 256⟩] rfl rfl (RdV.of_blk (Blk.new w7 _ _)) (by rw [HDL.out]; show (3 * i + 3) * 24 ≤ _; omega) (by rw [HDL.out]; show 3 * i + 3 ≤ _; unfold maxLen; omega) ?_; intro v' w8 Gt' h8 hg' hz; have HGT' := Lib.hid hg'; clear hg' hz HGT; (try simp only [World.size_alloc, List.nil_append, List.cons_append, List.append_eq] at h8); have S8 := Lib.hid h8; clear h8 S7)
        refine ⟨⟨i + 1, ds ++ [⟨some ⟨r1, 0, none⟩, 256, 256⟩, ⟨some ⟨r2, 0, none⟩, 256, 256⟩, ⟨some ⟨r3, 0, none⟩, 256, 256⟩], Gt', Gs ++ [[bt r1 (rowOf x)], [bt r2 (rowOf x)], [bt r3 (rowOf x)]], by omega, by simp, by simp [HDL.out]; omega, HGT'.out, ?_, S8.out.perm ((push_perm _ _ _).append_left _)⟩, ?_⟩
        · have hD := HDL.out
          refine Fam.append (HF.out.imp fun k G hk ⟨d, l, h1, h2, h3⟩ => ⟨d, l, by rw [List.getElem?_append_left (by omega)]; exact h1, h2, h3⟩) fun j G hj => ?_
          have key : ∀ j r, j < 3 → (ds ++ [(⟨some ⟨r1, 0, none⟩, 256, 256⟩ : Sd), ⟨some ⟨r2, 0, none⟩, 256, 256⟩, ⟨some ⟨r3, 0, none⟩, 256, 256⟩])[3 * i + j]? = some ⟨some ⟨r, 0, none⟩, 256, 256⟩ → Own e8 5 (ds ++ [⟨some ⟨r1, 0, none⟩, 256, 256⟩, ⟨some ⟨r2, 0, none⟩, 256, 256⟩, ⟨some ⟨r3, 0, none⟩, 256, 256⟩]) (rw3 L) (3 * i + j) [bt r (rowOf x)] := fun j r hj hd => ⟨_, rowOf x, hd, by
            show rowOf x = rowOf (L.getD ((3 * i + j) / 3) 0)
            rw [show (3 * i + j) / 3 = i by omega, HX.out], GrowV.of_blk (by rw [rowOf_length]; exact Nat.le_refl _) (rowOf_length x) (show 256 ≤ maxLen by decide) (List.take_of_length_le (by rw [rowOf_length]; exact Nat.le_refl _)) (rowOf_length x)⟩
          rcases j with _ | _ | _ | j
          · simp at hj; subst hj; exact key 0 _ (by decide) ((get_app hD).trans rfl)
          · simp at hj; subst hj; exact key 1 _ (by decide) ((get_app hD).trans rfl)
          · simp at hj; subst hj; exact key 2 _ (by decide) ((get_app hD).trans rfl)
          · simp at hj
        · simp [intOf]; omega
      · obtain rfl : i = M := by omega
        obtain ⟨At, ct, rfl⟩ := HGT.out.shape
        obtain ⟨kk, hkk⟩ : ∃ kk : Nat, Hid (3 * i = kk) := ⟨_, Lib.hid rfl⟩
        have HDL' : Hid (ds.length = kk) := Lib.hid (by rw [HDL.out, hkk.out])
        have hk12 : kk ≤ 123 := by have := hkk.out; omega
        have HK3 : Hid (∀ k, k < kk → k / 3 < i) := Lib.hid (fun k hk => by have := hkk.out; omega)
        rw [HDL'.out] at HGT ⊢
        rw [hkk.out] at HF
        clear HDL hkk hi hlt
        obtain ⟨M, rfl⟩ : ∃ M, M = i := ⟨_, rfl⟩
        obtain ⟨NN, hNN⟩ : ∃ NN, Hid (Gt ++ (Gs.flatten ++ [bt cb D, tk ub, tk kb]) = NN) := ⟨_, Lib.hid rfl⟩
        rw [hNN.out] at S4
        have RG : Hid (∀ (w' : World) (N' : List Ent), St w w' [] N' → (∀ e ∈ NN, e ∈ N') → ∀ k d, ds[k]? = some d → ∃ bd od, At = some ⟨bd, od, none⟩ ∧ w'.cell? ⟨bd, od + k, none⟩ = some (es d)) := Lib.hid (fun w' N' hs hm k d hd => by
          obtain ⟨b, o, hA, kA⟩ := HGT.out.read hs (fun e he => hm e (by rw [← hNN.out]; simp [he])) (by
            rcases Nat.eq_zero_or_pos ds.length with h | h
            · rw [List.eq_nil_of_length_eq_zero h] at hd; simp at hd
            · exact h)
          exact ⟨b, o, hA, kA k d hd⟩)
        have RL : Hid (∀ (w' : World) (N' : List Ent), St w w' [] N' → (∀ e ∈ NN, e ∈ N') → ∀ k, k < kk → ∃ A c, ds[k]? = some ⟨A, 256, c⟩ ∧ Rd w' A (rowOf (L.getD (k / 3) 0))) := Lib.hid (fun w' N' hs hm k hk => by
          obtain ⟨G, _, ⟨⟨dA, dn, dc⟩, r, h1, rfl, h3⟩, hmG⟩ := HF.out.get hk
          have hln : dn = _ := h3.len
          rw [rowOf_length] at hln
          subst hln
          have hv := (Grow.hold h3).rd hs (fun e he => hm e (by rw [← hNN.out]; simp [hmG e he]))
          exact ⟨dA, dc, h1, fun h0 => by
            obtain ⟨b, o, e, k⟩ := hv h0
            exact ⟨b, o, e, fun j hj => k j _ (getD_some hj)⟩⟩)
        go_wp2_with fail
        go_loopw [13] (fun vi wr => ∃ k : Nat, k ≤ kk ∧ vi = .int .i64 k ∧ St w wr [] NN) (fun vi _ => kk - (intOf vi).toNat)
        case atStart => exact ⟨0, by omega, rfl, S4.out⟩
        case round =>
          clear S4
          obtain ⟨k, hk, rfl, hs⟩ := hrel
          have S5 := Lib.hid hs; clear hs
          by_cases hlt : k < kk
          · have hk3 := HK3.out k hlt
            have HLT := Lib.hid hlt
            have k1 : (k : Int) < (kk : Int) := by omega
            obtain ⟨q, hq⟩ : ∃ q, Hid (k / 3 = q) := ⟨_, Lib.hid rfl⟩
            have k3 : q < M := by rw [← hq.out]; exact hk3
            have k4 : (k : Int) / 3 = (q : Int) := by rw [← hq.out]; omega
            have k5 : (k : Int).tdiv 3 = (q : Int) := by rw [Int.tdiv_eq_ediv_of_nonneg (by omega)]; exact k4
            have k6 : (q : Int) < (M : Int) := by omega
            have k7 : (0 : Int) ≤ (q : Int) := by omega
            have k8 : IntKind.i64.wrap ((k : Int).tdiv 3) = (q : Int) := by rw [k5]; exact Bt.wrap_i64 _ (by omega) (by omega)
            have k9 : IntKind.i64.wrap (q : Int) = (q : Int) := Bt.wrap_i64 _ (by omega) (by omega)
            have k10 : (k : Int) < 41 * 3 := by omega
            clear hk3
            have hk3 := k3
            have HCE : Hid (∀ w' N', St w w' [] N' → (∀ e ∈ NN, e ∈ N') → w'.cell? ⟨cb, q, none⟩ = some (.int .u8 ((L.getD q 0 : Nat) : Int))) := Lib.hid (fun w' N' hs hm => by
              obtain ⟨b', o', e', k'⟩ := (hs.rdTake (hm (bt cb D) (by rw [← hNN.out]; simp)) Q4.out) (by rw [HLM.out]; omega)
              injection e' with e'; injection e' with e1 e2 _; subst e1 e2
              have := k' q (by rw [HLM.out]; exact k3)
              rw [Nat.zero_add] at this
              exact this)
            have hx := H83.out.get (i := q) (by rw [HLM.out]; exact k3)
            obtain ⟨x, HX⟩ : ∃ x, Hid (L.getD q 0 = x) := ⟨_, Lib.hid rfl⟩
            rw [HX.out] at HCE hx
            have m1 := HCE.out _ _ S5.out (fun e he => he)
            obtain ⟨dA, dc, hd, _⟩ := RL.out _ _ S5.out (fun e he => he) k hlt
            obtain ⟨bd, od, eA, m2⟩ := RG.out _ _ S5.out (fun e he => he) k _ hd
            subst eA
            simp only [es] at m2
            have hxi : (x : Int) < 256 := by omega
            have HD1 := Lib.hid hd
            have HCC : Hid (∀ w' N', St w w' [] N' → (∀ e ∈ NN, e ∈ N') → w'.cell? ⟨cb, q, none⟩ = some (.int .u8 (x : Int)) ∧ w'.cell? ⟨bd, od + k, none⟩ = some (.slice dA 256 dc) ∧ Rd w' dA (rowOf x)) := Lib.hid (fun w' N hs hm => by
              obtain ⟨b', o', e', p'⟩ := RG.out _ _ hs hm k _ HD1.out
              injection e' with e'; injection e' with e1 e2 _; subst e1 e2
              obtain ⟨A', c', h1', h2'⟩ := RL.out _ _ hs hm k HLT.out
              rw [HD1.out] at h1'; injection h1' with h1'; injection h1' with e1 _ _; subst e1
              rw [hq.out, HX.out] at h2'
              exact ⟨HCE.out _ _ hs hm, p', h2'⟩)
            clear hd
            go_wp2_with fail
            have S6 := Lib.hid S5.out.drew; clear S5
            go_region_held3 (fun w' => w'.cell? ⟨cb, q, none⟩ = some (.int .u8 (x : Int)) ∧ w'.cell? ⟨bd, od + k, none⟩ = some (.slice dA 256 dc)) (first | go_keep | exact ⟨(HCC.out _ _ S6.out (fun e he => he)).1, (HCC.out _ _ S6.out (fun e he => he)).2.1⟩ | exact ⟨(HCC.out _ _ S7.out (fun e he => by simp [he])).1, (HCC.out _ _ S7.out (fun e he => by simp [he])).2.1⟩ | exact ⟨(HCC.out _ _ S8.out (fun e he => by simp [he])).1, (HCC.out _ _ S8.out (fun e he => by simp [he])).2.1⟩) (first
              | (go_at_call 23; refine (rrow_st (by omega) (by omega)).mono ?_; rintro e w7 ⟨r1, rfl, hh⟩; have h7 := S6.out.call hh; clear hh S6; (try simp only [List.nil_append, List.cons_append, List.append_eq, Int.toNat_natCast] at h7); have S7 := Lib.hid h7; clear h7)
              | (go_at_call 16; refine (equal_st (rowOf_length _) (by decide) (HCC.out _ _ S7.out (fun e he => by simp [he])).2.2 (S7.out.rd mem0)).mono ?_; rintro e w8 ⟨rfl, hh⟩; have h8 := S7.out.call hh; clear hh S7; (try simp only [List.nil_append, List.cons_append, List.append_eq, Int.toNat_natCast] at h8); have S8 := Lib.hid h8; clear h8))
            go_wp2_with fail
            refine ⟨⟨k + 1, by omega, by simp, S8.out.drop (List.sublist_cons_self _ _)⟩, ?_⟩
            simp [intOf]; omega
          · go_wp2_with fail
            refine (ap5_st HDL'.out (by omega) (St.perm (front_perm _ _ _) (by rw [hNN.out]; exact S5.out)) (HF.out.imp fun k G _ ⟨d, l, h1, h2, h3⟩ => ⟨d, l, h1, by show l.length ≤ 1048576; rw [h2, rowOf_length]; decide, h3⟩) (fun w' N' hs hm => HGT.out.read hs fun e he => hm e (by simp [he]))).mono ?_
            rintro e w6 ⟨rfl, hs⟩
            have S6 : Hid (St w w6 [] [bt cb D, tk ub, tk kb]) := Lib.hid (hs.drop (List.sublist_append_right _ _))
            clear hs S5 HF HGT RG RL hNN HDL' HK3
            go_wp2_with fail
            refine (zeros4 _).mono ?_
            rintro e w7 ⟨db, rfl, hh⟩
            have h7 := S6.out.call hh; clear hh S6
            try simp only [List.nil_append, List.cons_append, List.append_eq, Int.toNat_natCast] at h7
            have S7 := Lib.hid h7; clear h7
            have SZ := S7; clear S7
            go_wp2_with fail
            go_loopw [15] (fun vi wr => ∃ (i : Nat) (Dd : List Nat), i ≤ M ∧ vi = .int .i64 i ∧ Dd.length = 4 ∧ B8 Dd ∧ St w wr [] [bt db Dd, bt cb D, tk ub, tk kb]) (fun vi _ => M - (intOf vi).toNat)
            case atStart => exact ⟨0, zs 4, by omega, rfl, rfl, zs_b8 4, SZ.out⟩
            case round =>
              clear SZ
              obtain ⟨i, Dd, hi, rfl, hdd, hd8, hs⟩ := hrel
              have S4 := Lib.hid hs; have HDD := Lib.hid hdd; have HD8 := Lib.hid hd8; clear hs hdd hd8
              by_cases hlt : i < M
              · have i1 : (i : Int) < (M : Int) := by omega
                have HCC : Hid (∀ w' N', St w w' [] N' → bt cb D ∈ N' → w'.cell? ⟨cb, i, none⟩ = some (.int .u8 ((L.getD i 0 : Nat) : Int))) := Lib.hid (fun w' N' hs hm => by
                  obtain ⟨b', o', e', k'⟩ := (hs.rdTake hm Q4.out) (by rw [HLM.out]; omega)
                  injection e' with e'; injection e' with e1 e2 _; subst e1 e2
                  have := k' i (by rw [HLM.out]; exact hlt)
                  rw [Nat.zero_add] at this
                  exact this)
                have hx := H83.out.get (i := i) (by rw [HLM.out]; exact hlt)
                obtain ⟨x, HX⟩ : ∃ x, Hid (L.getD i 0 = x) := ⟨_, Lib.hid rfl⟩
                rw [HX.out] at HCC hx
                have hxi : (x : Int) < 256 := by omega
                have mc0 := HCC.out _ _ S4.out (by simp)
                go_wp2_with fail
                refine (row_any (by omega) (by omega) (S4.out.blk mem3)).mono ?_
                rintro e w5 ⟨r1, rfl, hh⟩
                have h5 := S4.out.call hh; clear hh S4
                try simp only [List.nil_append, List.cons_append, List.append_eq, Int.toNat_natCast] at h5
                have mc1 := HCC.out _ _ h5 (by simp)
                have S5 := Lib.hid h5; clear h5
                clear mc0
                go_wp2_with fail
                have S6 := Lib.hid S5.out.drew; clear S5
                go_region_held3 (fun w' => w'.cell? ⟨cb, i, none⟩ = some (.int .u8 (x : Int))) (first | go_keep | exact HCC.out _ _ S5.out (by simp) | exact HCC.out _ _ S6.out (by simp) | exact HCC.out _ _ S7.out (by simp) | exact HCC.out _ _ S8.out (by simp) | exact HCC.out _ _ S9.out (by simp) | exact HCC.out _ _ S10.out (by simp)) (first
                  | (go_at_call 23; refine (rrow_st (by omega) (by omega)).mono ?_; rintro e w7 ⟨r2, rfl, hh⟩; have h7 := S6.out.call hh; clear hh S6; (try simp only [List.nil_append, List.cons_append, List.append_eq, Int.toNat_natCast] at h7); have S7 := Lib.hid h7; clear h7)
                  | (go_at_call 16; refine (equal_st (rowOf_length _) (by decide) (S7.out.rd mem1) (S7.out.rd mem0)).mono ?_; rintro e w8 ⟨rfl, hh⟩; have h8 := S7.out.call hh; clear hh S7; (try simp only [List.nil_append, List.cons_append, List.append_eq, Int.toNat_natCast] at h8); have S8 := Lib.hid h8; clear h8)
                  | (go_at_call 21; refine (prod3_st hx (S8.out.blk (by simp))).mono ?_; rintro e w9 ⟨rfl, hh⟩; have h9 := S8.out.call hh; clear hh S8; (try simp only [List.nil_append, List.cons_append, List.append_eq, Int.toNat_natCast] at h9); have S9 := Lib.hid h9; clear h9)
                  | (go_at_call 25; refine (rmul3_st hx).mono ?_; rintro e w10 ⟨rfl, hh⟩; have h10 := S9.out.call hh; clear hh S9; (try simp only [List.nil_append, List.cons_append, List.append_eq, Int.toNat_natCast] at h10); have S10 := Lib.hid h10; clear h10))
                have SW : Hid (St w w10 [] [bt db Dd, bt cb D, tk ub, tk kb]) := Lib.hid (S10.out.drop (.cons _ (.cons _ (List.Sublist.refl _))))
                have mw := HCC.out _ _ SW.out (by simp)
                clear mc1
                go_wp2_with fail
                have SX := Lib.hid (SW.out.drew.alloc 5 (row .u8 [1, 2, 3, 4]))
                have mwd : w10.drew.cell? ⟨cb, i, none⟩ = some (.int .u8 (x : Int)) := mw
                refine wp_region_held_drew (S := fun w' => w'.cell? ⟨cb, i, none⟩ = some (.int .u8 (x : Int))) (by kernel_rfl) mwd (fun hHeld => ?_)
                refine take_l (v := ?_) 0 rfl (by kernel_rfl) (by kernel_rfl) (by kernel_rfl) (fun _ _ _ h => h) (by rfl) hHeld (fun w hSw => ?_) ?_
                rotate_left
                · (try dsimp only at hSw); go_simp; try (with_reducible rfl)
                try simp only [Act.put, List.setIfInBounds_toArray, List.set_cons_zero, List.set_cons_succ]
                refine take_l (v := ?_) 1 rfl (by kernel_rfl) (by kernel_rfl) (by kernel_rfl) (fun _ _ _ h => h) (by rfl) hHeld (fun w hSw => ?_) ?_
                rotate_left
                · (try dsimp only at hSw); go_simp; try (with_reducible rfl)
                try simp only [Act.put, List.setIfInBounds_toArray, List.set_cons_zero, List.set_cons_succ]
                refine take_l (v := ?_) 2 rfl (by kernel_rfl) (by kernel_rfl) (by kernel_rfl) (fun _ _ _ h => h) (by rfl) hHeld (fun w hSw => ?_) ?_
                rotate_left
                · (try dsimp only at hSw); go_simp; try (with_reducible rfl)
                try simp only [Act.put, List.setIfInBounds_toArray, List.set_cons_zero, List.set_cons_succ]
                refine take_l (v := ?_) 3 rfl (by kernel_rfl) (by kernel_rfl) (by kernel_rfl) (fun _ _ _ h => h) (by rfl) hHeld (fun w hSw => ?_) ?_
                rotate_left
                · (try dsimp only at hSw); go_simp; try (with_reducible rfl)
                try simp only [Act.put, List.setIfInBounds_toArray, List.set_cons_zero, List.set_cons_succ]
                refine take_l (v := ?_) 4 rfl (by kernel_rfl) (by kernel_rfl) (by kernel_rfl) (fun _ _ _ h => h) (by rfl) hHeld (fun w hSw => ?_) ?_
                rotate_left
                · (try dsimp only at hSw); go_simp; try (with_reducible rfl)
                try simp only [Act.put, List.setIfInBounds_toArray, List.set_cons_zero, List.set_cons_succ]
                refine take_l (v := ?_) 5 rfl (by kernel_rfl) (by kernel_rfl) (by kernel_rfl) (fun _ _ _ h => h) (by rfl) hHeld (fun w hSw => ?_) ?_
                rotate_left
                · (try dsimp only at hSw); go_simp; try (with_reducible rfl)
                try simp only [Act.put, List.setIfInBounds_toArray, List.set_cons_zero, List.set_cons_succ]
                refine held_one (i := 6) (by kernel_rfl) rfl rfl (bslice_run _ 5 4 _ (row .u8 [1, 2, 3, 4]) rfl (fun _ => by kernel_rfl)) (HCC.out _ _ SX.out (by simp)) (fun hHeld => ?_)
                try simp only [Act.put, List.setIfInBounds_toArray, List.set_cons_zero, List.set_cons_succ]
                have SY := Lib.hid (SW.out.alloc 5 (row .u8 [1, 2, 3, 4])).drew
                refine wpAnyH_ready (rs := [7]) (by kernel_rfl) (by simp) ?_
                refine AllReadyH.cons (o := _) rfl (fun K hK => ?_) AllReadyH.nil
                go_simp
                go_at_call 14; refine (mul_st (by omega) (by omega) (SY.out.blk mem3) (SY.out.blk mem1) HDD.out rfl (B8.of_all (by decide)) HD8.out (by decide) (SY.out.rd mem0) (SY.out.ne 3 1 rfl rfl (by decide))).mono ?_; rintro e w12 ⟨rfl, hh⟩; have h12 := SY.out.callN (N1 := [_]) hh; clear hh; simp only [List.nil_append, List.cons_append, List.append_eq, Int.toNat_natCast] at h12; rw [m1234] at h12; have e1 : w12.cell? ⟨db, 0, none⟩ = some (.int .u8 ((gm x 1 : Nat) : Int)) := (h12.blk mem1).cellRow (i := 0) (by simp); have e3 : w12.cell? ⟨db, 2, none⟩ = some (.int .u8 ((gm x 3 : Nat) : Int)) := (h12.blk mem1).cellRow (i := 2) (by simp); rw [gm_one hx] at e1; have S12 := Lib.hid h12; clear h12
                go_wp2_with fail
                refine hK.out _ _ (HCC.out _ _ S12.out (by simp)) (fun hHeld => ?_)
                clear hK K
                try simp only [Act.put, List.setIfInBounds_toArray, List.set_cons_zero, List.set_cons_succ]
                refine held_more (fun w' => w'.cell? ⟨cb, i, none⟩ = some (.int .u8 (x : Int)) ∧ w'.cell? ⟨db, 0, none⟩ = some (.int .u8 (x : Int)) ∧ w'.cell? ⟨db, 2, none⟩ = some (.int .u8 ((gm x 3 : Nat) : Int))) (fun _ h => h.1) ⟨hHeld, e1, e3⟩ (fun hHeld2 => ?_)
                refine take_l (v := ?_) 8 rfl (by kernel_rfl) (by kernel_rfl) (by kernel_rfl) (fun _ _ _ h => h) (by rfl) hHeld2 (fun w hSw => ?_) ?_
                rotate_left
                · (try dsimp only at hSw); go_simp; try (with_reducible rfl)
                try simp only [Act.put, List.setIfInBounds_toArray, List.set_cons_zero, List.set_cons_succ]
                refine take_l (v := ?_) 9 rfl (by kernel_rfl) (by kernel_rfl) (by kernel_rfl) (fun _ _ _ h => h) (by rfl) hHeld2 (fun w hSw => ?_) ?_
                rotate_left
                · (try dsimp only at hSw); go_simp; try (with_reducible rfl)
                try simp only [Act.put, List.setIfInBounds_toArray, List.set_cons_zero, List.set_cons_succ]
                refine take_l (v := ?_) 10 rfl (by kernel_rfl) (by kernel_rfl) (by kernel_rfl) (fun _ _ _ h => h) (by rfl) hHeld2 (fun w hSw => ?_) ?_
                rotate_left
                · (try dsimp only at hSw); go_simp; try (with_reducible rfl)
                try simp only [Act.put, List.setIfInBounds_toArray, List.set_cons_zero, List.set_cons_succ]
                refine take_l (v := ?_) 11 rfl (by kernel_rfl) (by kernel_rfl) (by kernel_rfl) (fun _ _ _ h => h) (by rfl) hHeld2 (fun w hSw => ?_) ?_
                rotate_left
                · (try dsimp only at hSw); go_simp; try (with_reducible rfl)
                try simp only [Act.put, List.setIfInBounds_toArray, List.set_cons_zero, List.set_cons_succ]
                refine take_l (v := ?_) 12 rfl (by kernel_rfl) (by kernel_rfl) (by kernel_rfl) (fun _ _ _ h => h) (by rfl) hHeld2 (fun w hSw => ?_) ?_
                rotate_left
                · (try dsimp only at hSw); go_simp; try (with_reducible rfl)
                try simp only [Act.put, List.setIfInBounds_toArray, List.set_cons_zero, List.set_cons_succ]
                refine take_l (v := ?_) 13 rfl (by kernel_rfl) (by kernel_rfl) (by kernel_rfl) (fun _ _ _ h => h) (by rfl) hHeld2 (fun w hSw => ?_) ?_
                rotate_left
                · (try dsimp only at hSw); go_simp; try (with_reducible rfl)
                try simp only [Act.put, List.setIfInBounds_toArray, List.set_cons_zero, List.set_cons_succ]
                refine take_l (v := ?_) 14 rfl (by kernel_rfl) (by kernel_rfl) (by kernel_rfl) (fun _ _ _ h => h) (by rfl) hHeld2 (fun w hSw => ?_) ?_
                rotate_left
                · (try dsimp only at hSw); go_simp; try (with_reducible rfl)
                try simp only [Act.put, List.setIfInBounds_toArray, List.set_cons_zero, List.set_cons_succ]
                refine take_l (v := ?_) 15 rfl (by kernel_rfl) (by kernel_rfl) (by kernel_rfl) (fun _ _ _ h => h) (by rfl) hHeld2 (fun w hSw => ?_) ?_
                rotate_left
                · (try dsimp only at hSw); go_simp; try (with_reducible rfl)
                try simp only [Act.put, List.setIfInBounds_toArray, List.set_cons_zero, List.set_cons_succ]
                refine take_l (v := ?_) 16 rfl (by kernel_rfl) (by kernel_rfl) (by kernel_rfl) (fun _ _ _ h => h) (by rfl) hHeld2 (fun w hSw => ?_) ?_
                rotate_left
                · (try dsimp only at hSw); go_simp; try (with_reducible rfl)
                try simp only [Act.put, List.setIfInBounds_toArray, List.set_cons_zero, List.set_cons_succ]
                refine take_l (v := ?_) 17 rfl (by kernel_rfl) (by kernel_rfl) (by kernel_rfl) (fun _ _ _ h => h) (by rfl) hHeld2 (fun w hSw => ?_) ?_
                rotate_left
                · (try dsimp only at hSw); go_simp; try (with_reducible rfl)
                try simp only [Act.put, List.setIfInBounds_toArray, List.set_cons_zero, List.set_cons_succ]
                refine take_l (v := ?_) 18 rfl (by kernel_rfl) (by kernel_rfl) (by kernel_rfl) (fun _ _ _ h => h) (by rfl) hHeld2 (fun w hSw => ?_) ?_
                rotate_left
                · (try dsimp only at hSw); go_simp; try (with_reducible rfl)
                try simp only [Act.put, List.setIfInBounds_toArray, List.set_cons_zero, List.set_cons_succ]
                refine take_l (v := ?_) 19 rfl (by kernel_rfl) (by kernel_rfl) (by kernel_rfl) (fun _ _ _ h => h) (by rfl) hHeld2 (fun w hSw => ?_) ?_
                rotate_left
                · (try dsimp only at hSw); go_simp; try (with_reducible rfl)
                try simp only [Act.put, List.setIfInBounds_toArray, List.set_cons_zero, List.set_cons_succ]
                refine take_l (v := ?_) 20 rfl (by kernel_rfl) (by kernel_rfl) (by kernel_rfl) (fun _ _ _ h => h) (by rfl) hHeld2 (fun w hSw => ?_) ?_
                rotate_left
                · (try dsimp only at hSw); go_simp; try (with_reducible rfl)
                try simp only [Act.put, List.setIfInBounds_toArray, List.set_cons_zero, List.set_cons_succ]
                refine take_l (v := ?_) 21 rfl (by kernel_rfl) (by kernel_rfl) (by kernel_rfl) (fun _ _ _ h => h) (by rfl) hHeld2 (fun w hSw => ?_) ?_
                rotate_left
                · (try dsimp only at hSw); go_simp; try (with_reducible rfl)
                try simp only [Act.put, List.setIfInBounds_toArray, List.set_cons_zero, List.set_cons_succ]
                refine take_l (v := ?_) 22 rfl (by kernel_rfl) (by kernel_rfl) (by kernel_rfl) (fun _ _ _ h => h) (by rfl) hHeld2 (fun w hSw => ?_) ?_
                rotate_left
                · (try dsimp only at hSw); go_simp; try (with_reducible rfl)
                try simp only [Act.put, List.setIfInBounds_toArray, List.set_cons_zero, List.set_cons_succ]
                refine take_l (v := ?_) 23 rfl (by kernel_rfl) (by kernel_rfl) (by kernel_rfl) (fun _ _ _ h => h) (by rfl) hHeld2 (fun w hSw => ?_) ?_
                rotate_left
                · (try dsimp only at hSw); go_simp; try (with_reducible rfl)
                try simp only [Act.put, List.setIfInBounds_toArray, List.set_cons_zero, List.set_cons_succ]
                refine take_l (v := ?_) 24 rfl (by kernel_rfl) (by kernel_rfl) (by kernel_rfl) (fun _ _ _ h => h) (by rfl) hHeld2 (fun w hSw => ?_) ?_
                rotate_left
                · (try dsimp only at hSw); go_simp; try (with_reducible rfl)
                try simp only [Act.put, List.setIfInBounds_toArray, List.set_cons_zero, List.set_cons_succ]
                refine take_l (v := ?_) 25 rfl (by kernel_rfl) (by kernel_rfl) (by kernel_rfl) (fun _ _ _ h => h) (by rfl) hHeld2 (fun w hSw => ?_) ?_
                rotate_left
                · (try dsimp only at hSw); go_simp; try (with_reducible rfl)
                try simp only [Act.put, List.setIfInBounds_toArray, List.set_cons_zero, List.set_cons_succ]
                refine take_l (v := ?_) 26 rfl (by kernel_rfl) (by kernel_rfl) (by kernel_rfl) (fun _ _ _ h => h) (by rfl) hHeld2 (fun w hSw => ?_) ?_
                rotate_left
                · (try dsimp only at hSw); go_simp; try (with_reducible rfl)
                try simp only [Act.put, List.setIfInBounds_toArray, List.set_cons_zero, List.set_cons_succ]
                refine wpAnyH_ready (rs := [27]) (by kernel_rfl) (by simp) ?_
                refine AllReadyH.cons (o := _) rfl (fun K hK => ?_) AllReadyH.nil
                go_simp
                go_at_call 25; refine (R2.mul_calls x 3 _ hx (by decide)).mono ?_; rintro e w' ⟨rfl, rfl⟩
                go_wp2_with fail
                refine hK.out _ _ (hHeld2) (fun hHeld => ?_)
                clear hK K
                try simp only [Act.put, List.setIfInBounds_toArray, List.set_cons_zero, List.set_cons_succ]
                refine take_l (v := ?_) 28 rfl (by kernel_rfl) (by kernel_rfl) (by kernel_rfl) (fun _ _ _ h => h) (by rfl) hHeld (fun w hSw => ?_) ?_
                rotate_left
                · (try dsimp only at hSw); go_simp; try (with_reducible rfl)
                try simp only [Act.put, List.setIfInBounds_toArray, List.set_cons_zero, List.set_cons_succ]
                refine take_l (v := ?_) 29 rfl (by kernel_rfl) (by kernel_rfl) (by kernel_rfl) (fun _ _ _ h => h) (by rfl) hHeld (fun w hSw => ?_) ?_
                rotate_left
                · (try dsimp only at hSw); go_simp; try (with_reducible rfl)
                try simp only [Act.put, List.setIfInBounds_toArray, List.set_cons_zero, List.set_cons_succ]
                refine wpAnyH_done (by kernel_rfl) ?_ _
                go_wp2_with fail
                refine ⟨⟨i + 1, [gm x 1, gm x 2, gm x 3, gm x 4], by omega, by simp, rfl, ?_, S12.out.drop (.cons _ (List.Sublist.refl _))⟩, ?_⟩
                · intro y hy
                  rw [← m1234] at hy
                  obtain ⟨z, _, rfl⟩ := List.mem_map.1 hy
                  exact gm_lt _ hx
                · simp [intOf]; omega
              · go_wp2_with fail
                go_ret
                exact ⟨rfl, S4.out.below⟩

end Go.Proofs.Ytgmoaemkdoeeiaa.L5t
