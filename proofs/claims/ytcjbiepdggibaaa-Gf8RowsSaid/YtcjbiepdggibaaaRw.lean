/- The law Gf8Rows of layer 2: its walk. -/
import Derived.Test.YtcjbiepdggibaaaAp
import Derived.Test.YtcjbiepdggibaaaL2
import Derived.Test.YtcjbiepdggibaaaR3
import Derived.Test.YtcjbiepdggibaaaKk
import Derived.Deep.RegionHeld3
namespace Go.Proofs.Ytcjbiepdggibaaa.St
set_option linter.unusedSimpArgs false
set_option linter.unusedVariables false
open Go Go.RowKit Go.Proofs.Ytcjbiepdggibaaa Go.Proofs.Ytcjbiepdggibaaa.Mm Go.Proofs.Ytcjbiepdggibaaa.Wr Go.Proofs.Ytcjbiepdggibaaa.Gf

set_option maxRecDepth 100000 in
theorem new8_st (w : World) : Calls Try.prog 18 #[] w fun e w' => ∃ b, e = .returned (.pointer (some ⟨b, 0, none⟩)) ∧ St w w' [] [⟨b, 55, Tb.tabs⟩] :=
  (G8.new_calls w).mono fun _ _ ⟨he, ht, hb⟩ => ⟨_, he, .of_made hb ht (Nat.le_refl _)⟩
set_option maxRecDepth 100000 in
theorem trow_st {b : Nat} {c : Int} {w : World} (h0 : 0 ≤ c) (hc : c < 256) (ht : G8.TabsAt w b) : Calls Try.prog 20 #[.pointer (some ⟨b, 0, none⟩), .int .u8 c] w fun e w' => ∃ r, e = .returned (.slice (some ⟨r, 0, none⟩) 256 256) ∧ St w w' [] [bt r (R2.rowL c.toNat)] := by
  obtain ⟨c, rfl⟩ := Int.eq_ofNat_of_zero_le h0
  exact (G8.trow_calls b c w ht (by omega)).mono fun _ _ ⟨he, ht, hb⟩ => ⟨_, he, .of_made hb ht (Nat.le_refl _)⟩
theorem rrow_st {c : Int} {w : World} (h0 : 0 ≤ c) (hc : c < 256) : Calls Try.prog 21 #[.int .u8 c] w fun e w' => ∃ r, e = .returned (.slice (some ⟨r, 0, none⟩) 256 256) ∧ St w w' [] [bt r (R2.rowL c.toNat)] := by
  obtain ⟨c, rfl⟩ := Int.eq_ofNat_of_zero_le h0
  exact (R2.row_calls c w (by omega)).mono fun _ _ ⟨he, ht, hb⟩ => ⟨_, he, .of_made hb ht (Nat.le_refl _)⟩
theorem same8_st {A1 A2 : Option Addr} {m c1 c2 : Nat} {l : List Nat} {w : World} (hm : l.length = m) (hl : m ≤ 9223372036854775807) (h1 : Rd w A1 l) (h2 : Rd w A2 l) :
    Calls Try.prog 19 #[.slice A1 m c1, .slice A2 m c2] w fun e w' => e = .returned (.bool true) ∧ St w w' [] [] :=
  (L2.same_calls A1 A2 m c1 c2 l w hm hl h1 h2).mono fun _ _ ⟨he, n, hw⟩ => ⟨he, by rw [hw]; exact (St.start w).drewN⟩
set_option maxRecDepth 100000 in
theorem tmul3_st {b : Nat} {c : Nat} {w : World} (hc : c < 256) (ht : G8.TabsAt w b) : Calls Try.prog 23 #[.pointer (some ⟨b, 0, none⟩), .int .u8 (c : Int), .int .u8 3] w fun e w' => e = .returned (.int .u8 ((gm c 3 : Nat) : Int)) ∧ St w w' [] [] :=
  (G8.tmul_calls b c 3 w ht hc (by decide)).mono fun _ _ ⟨he, n, hw⟩ => ⟨he, by rw [hw]; exact (St.start w).drewN⟩
theorem rmul3_st {c : Nat} {w : World} (hc : c < 256) : Calls Try.prog 24 #[.int .u8 (c : Int), .int .u8 3] w fun e w' => e = .returned (.int .u8 ((gm c 3 : Nat) : Int)) ∧ St w w' [] [] :=
  (R2.mul_calls c 3 w hc (by decide)).mono fun _ _ ⟨he, hw⟩ => ⟨he, by rw [← hw]; exact St.start w⟩
theorem awake8_st (w : World) : Calls Try.prog 12 #[] w fun e w' => e = .returned (.bool true) ∧ St w w' [] [] :=
  (L2.awake_calls w).mono fun _ _ ⟨he, hw⟩ => ⟨he, by rw [← hw]; exact St.start w⟩
theorem open_bytes2 {B : Nat} {w : World} {A : Option Addr} {n c : Nat} {l : List Nat} (h : (Kk.kSlice Kk.kByte 1).ok B w [.slice A n c] l) : l.length = n ∧ n ≤ 140737488351232 ∧ n ≤ c ∧ Rd w A l ∧ B8 l := by
  obtain ⟨A', c', he, hlc, _, hr, hrow⟩ := h
  injection he with he _
  injection he with e1 e2 e3
  subst e1 e2 e3
  refine ⟨rfl, by unfold reachBytes at hr; omega, hlc, fun h0 => ?_, fun x hx => ?_⟩
  · obtain ⟨b, off, hA, _, hc⟩ := hrow h0
    refine ⟨b, off, hA, fun i hi => ?_⟩
    obtain ⟨cs, ⟨rfl, _⟩, hcell⟩ := hc i hi
    have := hcell 0 _ rfl
    have e : l.getD i 0 = l[i] := by simp [hi]
    rw [e]
    simpa [Kk.kByte] using this
  · obtain ⟨i, hi, rfl⟩ := List.getElem_of_mem hx
    obtain ⟨b, off, hA, _, hc⟩ := hrow (by omega)
    obtain ⟨cs, ⟨_, hok⟩, _⟩ := hc i hi
    exact hok
theorem getD_some {l : List Nat} {j : Nat} (h : j < l.length) : l[j]? = some (l.getD j 0) := by simp [h]
/-- All three rows of each. -/
abbrev rw3 (l : List Nat) (k : Nat) (r : List Nat) : Prop := r = R2.rowL (l.getD (k / 3) 0)

set_option maxRecDepth 100000 in
set_option maxHeartbeats 4000000 in
theorem rows_walk (A : Option Addr) (n cp : Nat) (l : List Nat) (w : World) (h : (Kk.kSlice Kk.kByte 1).ok w.heap.size w [.slice A n cp] l) :
    Calls Try.prog 7 #[.slice A n cp] w fun e w' => e = .returned (.bool true) ∧ Below w.heap.size w w' := by
  obtain ⟨hn, hn2, hncp, hr, h8⟩ := open_bytes2 h
  clear h
  have HN := Lib.hid hn; have HR := Lib.hid hr; have H8 := Lib.hid h8
  clear hn hr h8
  have S0 := Lib.hid (St.start w)
  go_enter Try.func7, Try.ntmps7
  go_wp2_with fail
  refine (new8_st _).mono ?_
  rintro e w1 ⟨tb, rfl, hh⟩
  have h1 := S0.out.call hh; clear hh S0
  try simp only [List.nil_append, List.cons_append, List.append_eq, Int.toNat_natCast] at h1
  have S1 := Lib.hid h1; clear h1
  go_wp2_with fail
  refine (new8_st _).mono ?_
  rintro e w2 ⟨ub, rfl, hh⟩
  have h2 := S1.out.call hh; clear hh S1
  try simp only [List.nil_append, List.cons_append, List.append_eq, Int.toNat_natCast] at h2
  have S2 := Lib.hid h2; clear h2
  go_wp2_with fail
  refine (awake8_st _).mono ?_
  rintro e w3 ⟨rfl, hh⟩
  have h3 := S2.out.call hh; clear hh S2
  try simp only [List.nil_append, List.cons_append, List.append_eq, Int.toNat_natCast] at h3
  have S3 := Lib.hid h3; clear h3
  go_wp2_with fail
  refine (trow_st (by decide) (by decide) (S3.out.blk mem1)).mono ?_
  rintro e w4 ⟨r1, rfl, hh⟩
  have h4 := S3.out.call hh; clear hh S3
  try simp only [List.nil_append, List.cons_append, List.append_eq, Int.toNat_natCast] at h4
  have S4 := Lib.hid h4; clear h4
  go_wp2_with fail
  refine (rrow_st (by decide) (by decide)).mono ?_
  rintro e w5 ⟨r2, rfl, hh⟩
  have h5 := S4.out.call hh; clear hh S4
  try simp only [List.nil_append, List.cons_append, List.append_eq, Int.toNat_natCast] at h5
  have S5 := Lib.hid h5; clear h5
  go_wp2_with fail
  refine (same8_st (R2.rowL_length _) (by decide) (S5.out.rd mem1) (S5.out.rd mem0)).mono ?_
  rintro e w6 ⟨rfl, hh⟩
  have h6 := S5.out.call hh; clear hh S5
  try simp only [List.nil_append, List.cons_append, List.append_eq, Int.toNat_natCast] at h6
  have S6 := Lib.hid h6; clear h6
  have S7 := Lib.hid (S6.out.drop (.cons _ (.cons _ (.cons_cons _ (.cons_cons _ (List.Sublist.refl _)))))); clear S6
  have ST := S7; clear S7
  by_cases h40 : 40 < n
  case' pos =>
    obtain ⟨m, HM⟩ : ∃ m, Hid (m = 40) := ⟨40, Lib.hid rfl⟩
    have hm40 : m ≤ 40 := by rw [HM.out]; exact Nat.le_refl _
    have hmn : m ≤ n := by rw [HM.out]; omega
    obtain ⟨l2, hl2⟩ : ∃ l2, l2 = l.take m := ⟨_, rfl⟩
    have HL2 : Hid (l2.length = m) := Lib.hid (by rw [hl2, List.length_take, HN.out]; omega)
    have HR2 : Hid (Rd w A l2) := Lib.hid (by
      have := HR.out.cut cp 0 m (by rw [HN.out]; exact hncp)
      rw [cutA_zero, List.drop_zero] at this
      rw [hl2]; exact this)
    have H82 : Hid (B8 l2) := Lib.hid (by rw [hl2]; exact H8.out.take m)
    have h40' : (40 : Int) < (n : Int) := by omega
    clear hl2 HN HR H8
    go_wp2_with ((with_reducible refine at_slot (N := 32) rfl ?_); refine slice_law rfl 33 5 Try.underlying33 (by kernel_rfl) _ _ _ rfl A n cp 0 m rfl 0 40 (.inl ⟨rfl, rfl⟩) (.inr ⟨rfl, by rw [HM.out]; rfl⟩) (by omega) ?_; rw [cutA_zero])
  case' neg =>
    obtain ⟨m, rfl⟩ : ∃ m, m = n := ⟨_, rfl⟩
    obtain ⟨l2, rfl⟩ : ∃ l2, l2 = l := ⟨_, rfl⟩
    have hm40 : m ≤ 40 := by omega
    have HL2 := HN; have HR2 := HR; have H82 := H8
    have h40' : (m : Int) ≤ 40 := by omega
    clear HN HR H8
    go_wp2_with fail
  all_goals
    go_loopw [5, 6] (fun v vi wr => ∃ (i : Nat) (ds : List Sd) (Gt : List Ent) (Gs : List (List Ent)), i ≤ m ∧ vi = .int .i64 i ∧ ds.length = 3 * i ∧ GrowV es 33 v ds Gt ∧ Fam (3 * i) (Own e8 5 ds (rw3 l2)) Gs ∧ St w wr [] (Gt ++ (Gs.flatten ++ [⟨ub, 55, Tb.tabs⟩, ⟨tb, 55, Tb.tabs⟩]))) (fun _ vi _ => m - (intOf vi).toNat)
    case atStart => exact ⟨0, [], [], [], by omega, rfl, rfl, GrowV.nil, Fam.nil _, ST.out⟩
    case round =>
      clear ST
      obtain ⟨i, ds, Gt, Gs, hi, rfl, hdl, hgt, hfam, hs⟩ := hrel
      have S4 := Lib.hid hs; have HDL := Lib.hid hdl; have HGT := Lib.hid hgt; have HF := Lib.hid hfam; clear hs hdl hgt hfam
      by_cases hlt : i < m
      · have i1 : (i : Int) < (m : Int) := by omega
        obtain ⟨b, o, eA, k1⟩ := (S4.out.ext HR2.out) (by rw [HL2.out]; omega)
        have m1 := k1 i (by rw [HL2.out]; exact hlt)
        have hx := H82.out.get (i := i) (by rw [HL2.out]; exact hlt)
        subst eA
        obtain ⟨x, HX⟩ : ∃ x, Hid (l2.getD i 0 = x) := ⟨_, Lib.hid rfl⟩
        rw [HX.out] at m1 hx
        have hxi : (x : Int) < 256 := by omega
        have HCC : Hid (∀ w' N, St w w' [] N → w'.cell? ⟨b, o + i, none⟩ = some (.int .u8 (x : Int))) := Lib.hid (fun w' N hs => by
          obtain ⟨b', o', e', k'⟩ := (hs.ext HR2.out) (by rw [HL2.out]; omega)
          injection e' with e'; injection e' with e1 e2 _; subst e1 e2
          rw [← HX.out]; exact k' i (by rw [HL2.out]; exact hlt))
        have HTB : Hid (∀ w' N', St w w' [] (N' ++ (Gt ++ (Gs.flatten ++ [⟨ub, 55, Tb.tabs⟩, ⟨tb, 55, Tb.tabs⟩]))) → G8.TabsAt w' tb ∧ G8.TabsAt w' ub) := Lib.hid (fun w' N' hs => ⟨hs.blk (by simp), hs.blk (by simp)⟩)
        clear k1
        go_wp2_with fail
        have S5 := Lib.hid S4.out.drew; clear S4
        go_region_held3 (fun w' => w'.cell? ⟨b, o + i, none⟩ = some (.int .u8 (x : Int))) (first | go_keep | exact HCC.out _ _ S5.out | exact HCC.out _ _ S6.out | exact HCC.out _ _ S7.out | exact HCC.out _ _ S8.out | exact HCC.out _ _ S9.out) (first
          | (go_at_call 20; refine (trow_st (by omega) (by omega) (HTB.out _ [] S5.out).1).mono ?_; rintro e w6 ⟨r1, rfl, hh⟩; have h6 := S5.out.call hh; clear hh S5; (try simp only [List.nil_append, List.cons_append, List.append_eq, Int.toNat_natCast] at h6); have S6 := Lib.hid h6; clear h6)
          | (go_at_call 20; refine (trow_st (by omega) (by omega) (HTB.out _ [_] S6.out).1).mono ?_; rintro e w7 ⟨r2, rfl, hh⟩; have h7 := S6.out.call hh; clear hh S6; (try simp only [List.nil_append, List.cons_append, List.append_eq, Int.toNat_natCast] at h7); have S7 := Lib.hid h7; clear h7)
          | (go_at_call 20; refine (trow_st (by omega) (by omega) (HTB.out _ [_, _] S7.out).2).mono ?_; rintro e w8 ⟨r3, rfl, hh⟩; have h8 := S7.out.call hh; clear hh S7; (try simp only [List.nil_append, List.cons_append, List.append_eq, Int.toNat_natCast] at h8); have S8 := Lib.hid h8; clear h8)
          | (refine step_append_v (enc := es) (N := ([[bt r1 (R2.rowL x)], [bt r2 (R2.rowL x)], [bt r3 (R2.rowL x)]] : List (List Ent)).reverse.flatten ++ (Gs.flatten ++ [⟨ub, 55, Tb.tabs⟩, ⟨tb, 55, Tb.tabs⟩])) (G := Gt) (by rfl) _ _ 38 (by rfl) ⟨none, 0, 0⟩ 24 Try.underlying38 info_ap21 rfl (fun _ => rfl) _ ds (by rfl) (St.perm (front_perm _ _ _) (by first | exact S8.out.skip | exact S8.out.skip.drew | exact S8.out)) HGT.out (some ⟨w8.heap.size, 0, none⟩) 3 3 [⟨some ⟨r1, 0, none⟩, 256, 256⟩, ⟨some ⟨r2, 0, none⟩, 256, 256⟩, ⟨some ⟨r3, 0, none⟩, 256, 256⟩] (by rfl) (by rfl) (by first | exact RdV.of_blk (Blk.new w8 _ _) | exact RdV.of_blk (Blk.new w8.drew _ _) | exact RdV.of_blk (Blk.new w8 _ _).drew) (by rw [HDL.out]; show (3 * i + 3) * 24 ≤ _; omega) (by rw [HDL.out]; show 3 * i + 3 ≤ _; unfold maxLen; omega) ?_; intro v' w9 Gt' h9 hg'; have HGT' := Lib.hid hg'; clear hg' HGT; (try simp only [World.size_alloc, List.nil_append, List.cons_append, List.append_eq] at h9); have S9 := Lib.hid h9; clear h9 S8))
        go_wp2_with fail
        refine ⟨⟨i + 1, ds ++ [⟨some ⟨r1, 0, none⟩, 256, 256⟩, ⟨some ⟨r2, 0, none⟩, 256, 256⟩, ⟨some ⟨r3, 0, none⟩, 256, 256⟩], Gt', Gs ++ [[bt r1 (R2.rowL x)], [bt r2 (R2.rowL x)], [bt r3 (R2.rowL x)]], by omega, by simp, by simp [HDL.out]; omega, HGT'.out, ?_, S9.out.perm ((push_perm _ _ _).append_left _)⟩, ?_⟩
        · have hD := HDL.out
          refine Fam.append (HF.out.imp fun k G hk ⟨d, l, h1, h2, h3⟩ => ⟨d, l, by rw [List.getElem?_append_left (by omega)]; exact h1, h2, h3⟩) fun j G hj => ?_
          have key : ∀ j r, j < 3 → (ds ++ [(⟨some ⟨r1, 0, none⟩, 256, 256⟩ : Sd), ⟨some ⟨r2, 0, none⟩, 256, 256⟩, ⟨some ⟨r3, 0, none⟩, 256, 256⟩])[3 * i + j]? = some ⟨some ⟨r, 0, none⟩, 256, 256⟩ → Own e8 5 (ds ++ [⟨some ⟨r1, 0, none⟩, 256, 256⟩, ⟨some ⟨r2, 0, none⟩, 256, 256⟩, ⟨some ⟨r3, 0, none⟩, 256, 256⟩]) (rw3 l2) (3 * i + j) [bt r (R2.rowL x)] := fun j r hj hd => ⟨_, R2.rowL x, hd, by
            show R2.rowL x = R2.rowL (l2.getD ((3 * i + j) / 3) 0)
            rw [show (3 * i + j) / 3 = i by omega, HX.out], GrowV.of_blk (by rw [R2.rowL_length]; exact Nat.le_refl _) (R2.rowL_length x) (show 256 ≤ maxLen by decide) (List.take_of_length_le (by rw [R2.rowL_length]; exact Nat.le_refl _)) (R2.rowL_length x)⟩
          rcases j with _ | _ | _ | j
          · simp at hj; subst hj; exact key 0 _ (by decide) ((get_app hD).trans rfl)
          · simp at hj; subst hj; exact key 1 _ (by decide) ((get_app hD).trans rfl)
          · simp at hj; subst hj; exact key 2 _ (by decide) ((get_app hD).trans rfl)
          · simp at hj
        · simp [intOf]; omega
      · obtain rfl : i = m := by omega
        obtain ⟨At, ct, rfl⟩ := HGT.out.shape
        obtain ⟨kk, hkk⟩ : ∃ kk : Nat, Hid (3 * i = kk) := ⟨_, Lib.hid rfl⟩
        have HDL' : Hid (ds.length = kk) := Lib.hid (by rw [HDL.out, hkk.out])
        have hk12 : kk ≤ 120 := by have := hkk.out; omega
        have HK3 : Hid (∀ k, k < kk → k / 3 < i) := Lib.hid (fun k hk => by have := hkk.out; omega)
        rw [HDL'.out] at HGT ⊢
        rw [hkk.out] at HF
        clear HDL hkk hi hlt
        obtain ⟨m, rfl⟩ : ∃ m, m = i := ⟨_, rfl⟩
        obtain ⟨NN, hNN⟩ : ∃ NN, Hid (Gt ++ (Gs.flatten ++ [⟨ub, 55, Tb.tabs⟩, ⟨tb, 55, Tb.tabs⟩]) = NN) := ⟨_, Lib.hid rfl⟩
        rw [hNN.out] at S4
        have RG : Hid (∀ (w' : World) (N' : List Ent), St w w' [] N' → (∀ e ∈ NN, e ∈ N') → ∀ k d, ds[k]? = some d → ∃ bd od, At = some ⟨bd, od, none⟩ ∧ w'.cell? ⟨bd, od + k, none⟩ = some (es d)) := Lib.hid (fun w' N' hs hm k d hd => by
          obtain ⟨b, o, hA, kA⟩ := HGT.out.read hs (fun e he => hm e (by rw [← hNN.out]; simp [he])) (by
            rcases Nat.eq_zero_or_pos ds.length with h | h
            · rw [List.eq_nil_of_length_eq_zero h] at hd; simp at hd
            · exact h)
          exact ⟨b, o, hA, kA k d hd⟩)
        have RL : Hid (∀ (w' : World) (N' : List Ent), St w w' [] N' → (∀ e ∈ NN, e ∈ N') → ∀ k, k < kk → ∃ A c, ds[k]? = some ⟨A, 256, c⟩ ∧ Rd w' A (R2.rowL (l2.getD (k / 3) 0))) := Lib.hid (fun w' N' hs hm k hk => by
          obtain ⟨G, _, ⟨⟨dA, dn, dc⟩, r, h1, rfl, h3⟩, hmG⟩ := HF.out.get hk
          have hln : dn = _ := h3.len
          rw [R2.rowL_length] at hln
          subst hln
          have hv := (Grow.hold h3).rd hs (fun e he => hm e (by rw [← hNN.out]; simp [hmG e he]))
          exact ⟨dA, dc, h1, fun h0 => by
            obtain ⟨b, o, e, k⟩ := hv h0
            exact ⟨b, o, e, fun j hj => k j _ (getD_some hj)⟩⟩)
        go_wp2_with fail
        go_loopw [7] (fun vi wr => ∃ k : Nat, k ≤ kk ∧ vi = .int .i64 k ∧ St w wr [] NN) (fun vi _ => kk - (intOf vi).toNat)
        case atStart => exact ⟨0, by omega, rfl, S4.out⟩
        case round =>
          clear S4
          obtain ⟨k, hk, rfl, hs⟩ := hrel
          have S5 := Lib.hid hs; clear hs
          by_cases hlt : k < kk
          · have hk3 := HK3.out k hlt
            have HLT := Lib.hid hlt
            have k1 : (k : Int) < (kk : Int) := by omega
            obtain ⟨q, hq⟩ : ∃ q, Hid (k / 3 = q) := ⟨_, Lib.hid rfl⟩
            have k3 : q < m := by rw [← hq.out]; exact hk3
            have k4 : (k : Int) / 3 = (q : Int) := by rw [← hq.out]; omega
            have k5 : (k : Int).tdiv 3 = (q : Int) := by rw [Int.tdiv_eq_ediv_of_nonneg (by omega)]; exact k4
            have k6 : (q : Int) < (m : Int) := by omega
            have k7 : (0 : Int) ≤ (q : Int) := by omega
            have k8 : IntKind.i64.wrap ((k : Int).tdiv 3) = (q : Int) := by rw [k5]; exact Bt.wrap_i64 _ (by omega) (by omega)
            have k9 : IntKind.i64.wrap (q : Int) = (q : Int) := Bt.wrap_i64 _ (by omega) (by omega)
            have k10 : (k : Int) < 40 * 3 := by omega
            clear hk3
            have hk3 := k3
            obtain ⟨b, o, eA, q1⟩ := (S5.out.ext HR2.out) (by rw [HL2.out]; omega)
            have m1 := q1 q (by rw [HL2.out]; exact hk3)
            have hx := H82.out.get (i := q) (by rw [HL2.out]; exact hk3)
            subst eA
            obtain ⟨x, HX⟩ : ∃ x, Hid (l2.getD q 0 = x) := ⟨_, Lib.hid rfl⟩
            rw [HX.out] at m1 hx
            obtain ⟨dA, dc, hd, _⟩ := RL.out _ _ S5.out (fun e he => he) k hlt
            obtain ⟨bd, od, eA, m2⟩ := RG.out _ _ S5.out (fun e he => he) k _ hd
            subst eA
            simp only [es] at m2
            have hxi : (x : Int) < 256 := by omega
            have HD1 := Lib.hid hd
            have HCC : Hid (∀ w' N', St w w' [] N' → (∀ e ∈ NN, e ∈ N') → w'.cell? ⟨b, o + q, none⟩ = some (.int .u8 (x : Int)) ∧ w'.cell? ⟨bd, od + k, none⟩ = some (.slice dA 256 dc) ∧ Rd w' dA (R2.rowL x)) := Lib.hid (fun w' N hs hm => by
              obtain ⟨b', o', e', k'⟩ := (hs.ext HR2.out) (by rw [HL2.out]; omega)
              injection e' with e'; injection e' with e1 e2 _; subst e1 e2
              obtain ⟨b', o', e', p'⟩ := RG.out _ _ hs hm k _ HD1.out
              injection e' with e'; injection e' with e1 e2 _; subst e1 e2
              obtain ⟨A', c', h1', h2'⟩ := RL.out _ _ hs hm k HLT.out
              rw [HD1.out] at h1'; injection h1' with h1'; injection h1' with e1 _ _; subst e1
              rw [hq.out, HX.out] at h2'; have kq := k' q (by rw [HL2.out]; exact k3); rw [HX.out] at kq; exact ⟨kq, p', h2'⟩)
            clear q1 hd
            go_wp2_with fail
            have S6 := Lib.hid S5.out.drew; clear S5
            go_region_held3 (fun w' => w'.cell? ⟨b, o + q, none⟩ = some (.int .u8 (x : Int)) ∧ w'.cell? ⟨bd, od + k, none⟩ = some (.slice dA 256 dc)) (first | go_keep | exact ⟨(HCC.out _ _ S6.out (fun e he => he)).1, (HCC.out _ _ S6.out (fun e he => he)).2.1⟩ | exact ⟨(HCC.out _ _ S7.out (fun e he => by simp [he])).1, (HCC.out _ _ S7.out (fun e he => by simp [he])).2.1⟩ | exact ⟨(HCC.out _ _ S8.out (fun e he => by simp [he])).1, (HCC.out _ _ S8.out (fun e he => by simp [he])).2.1⟩) (first
              | (go_at_call 21; refine (rrow_st (by omega) (by omega)).mono ?_; rintro e w7 ⟨r1, rfl, hh⟩; have h7 := S6.out.call hh; clear hh S6; (try simp only [List.nil_append, List.cons_append, List.append_eq, Int.toNat_natCast] at h7); have S7 := Lib.hid h7; clear h7)
              | (go_at_call 19; refine (same8_st (R2.rowL_length _) (by decide) (HCC.out _ _ S7.out (fun e he => by simp [he])).2.2 (S7.out.rd mem0)).mono ?_; rintro e w8 ⟨rfl, hh⟩; have h8 := S7.out.call hh; clear hh S7; (try simp only [List.nil_append, List.cons_append, List.append_eq, Int.toNat_natCast] at h8); have S8 := Lib.hid h8; clear h8))
            go_wp2_with fail
            refine ⟨⟨k + 1, by omega, by simp, S8.out.drop (List.sublist_cons_self _ _)⟩, ?_⟩
            simp [intOf]; omega
          · go_wp2_with fail
            refine (ap2_st HDL'.out (by omega) (St.perm (front_perm _ _ _) (by rw [hNN.out]; exact S5.out)) (HF.out.imp fun k G _ ⟨d, l, h1, h2, h3⟩ => ⟨d, l, h1, by show l.length ≤ 1048576; rw [h2, R2.rowL_length]; decide, h3⟩) (fun w' N' hs hm => HGT.out.read hs fun e he => hm e (by simp [he]))).mono ?_
            rintro e w6 ⟨rfl, hs⟩
            have S6 : Hid (St w w6 [] [⟨ub, 55, Tb.tabs⟩, ⟨tb, 55, Tb.tabs⟩]) := Lib.hid (hs.drop (List.sublist_append_right _ _))
            clear hs S5 HF HGT RG RL hNN HDL' HK3
            go_wp2_with fail
            go_loopw [8] (fun vi wr => ∃ i : Nat, i ≤ m ∧ vi = .int .i64 i ∧ St w wr [] [⟨ub, 55, Tb.tabs⟩, ⟨tb, 55, Tb.tabs⟩]) (fun vi _ => m - (intOf vi).toNat)
            case atStart => exact ⟨0, by omega, rfl, S6.out⟩
            case round =>
              clear S6
              obtain ⟨i, hi, rfl, hs⟩ := hrel
              have S4 := Lib.hid hs; clear hs
              by_cases hlt : i < m
              · have i1 : (i : Int) < (m : Int) := by omega
                obtain ⟨b, o, eA, k1⟩ := (S4.out.ext HR2.out) (by rw [HL2.out]; omega)
                have m1 := k1 i (by rw [HL2.out]; exact hlt)
                have hx := H82.out.get (i := i) (by rw [HL2.out]; exact hlt)
                subst eA
                obtain ⟨x, HX⟩ : ∃ x, Hid (l2.getD i 0 = x) := ⟨_, Lib.hid rfl⟩
                rw [HX.out] at m1 hx
                have hxi : (x : Int) < 256 := by omega
                have HCC : Hid (∀ w' N, St w w' [] N → w'.cell? ⟨b, o + i, none⟩ = some (.int .u8 (x : Int))) := Lib.hid (fun w' N hs => by
                  obtain ⟨b', o', e', k'⟩ := (hs.ext HR2.out) (by rw [HL2.out]; omega)
                  injection e' with e'; injection e' with e1 e2 _; subst e1 e2
                  rw [← HX.out]; exact k' i (by rw [HL2.out]; exact hlt))
                have HTB : Hid (∀ w' N', St w w' [] (N' ++ [⟨ub, 55, Tb.tabs⟩, ⟨tb, 55, Tb.tabs⟩]) → G8.TabsAt w' tb ∧ G8.TabsAt w' ub) := Lib.hid (fun w' N' hs => ⟨hs.blk (by simp), hs.blk (by simp)⟩)
                clear k1
                go_wp2_with fail
                have S5 := Lib.hid S4.out.drew; clear S4
                go_region_held3 (fun w' => w'.cell? ⟨b, o + i, none⟩ = some (.int .u8 (x : Int))) (first | go_keep | exact HCC.out _ _ S5.out | exact HCC.out _ _ S6.out | exact HCC.out _ _ S7.out | exact HCC.out _ _ S8.out | exact HCC.out _ _ S9.out | exact HCC.out _ _ S10.out) (first
                  | (go_at_call 20; refine (trow_st (by omega) (by omega) (HTB.out _ [] S5.out).1).mono ?_; rintro e w6 ⟨r1, rfl, hh⟩; have h6 := S5.out.call hh; clear hh S5; (try simp only [List.nil_append, List.cons_append, List.append_eq, Int.toNat_natCast] at h6); have S6 := Lib.hid h6; clear h6)
                  | (go_at_call 21; refine (rrow_st (by omega) (by omega)).mono ?_; rintro e w7 ⟨r2, rfl, hh⟩; have h7 := S6.out.call hh; clear hh S6; (try simp only [List.nil_append, List.cons_append, List.append_eq, Int.toNat_natCast] at h7); have S7 := Lib.hid h7; clear h7)
                  | (go_at_call 19; refine (same8_st (R2.rowL_length _) (by decide) (S7.out.rd mem1) (S7.out.rd mem0)).mono ?_; rintro e w8 ⟨rfl, hh⟩; have h8 := S7.out.call hh; clear hh S7; (try simp only [List.nil_append, List.cons_append, List.append_eq, Int.toNat_natCast] at h8); have S8 := Lib.hid h8; clear h8)
                  | (go_at_call 23; refine (tmul3_st hx (HTB.out _ [_, _] S8.out).1).mono ?_; rintro e w9 ⟨rfl, hh⟩; have h9 := S8.out.call hh; clear hh S8; (try simp only [List.nil_append, List.cons_append, List.append_eq, Int.toNat_natCast] at h9); have S9 := Lib.hid h9; clear h9)
                  | (go_at_call 24; refine (rmul3_st hx).mono ?_; rintro e w10 ⟨rfl, hh⟩; have h10 := S9.out.call hh; clear hh S9; (try simp only [List.nil_append, List.cons_append, List.append_eq, Int.toNat_natCast] at h10); have S10 := Lib.hid h10; clear h10))
                go_wp2_with fail
                refine ⟨⟨i + 1, by omega, by simp, S10.out.drop (.cons _ (.cons _ (List.Sublist.refl _)))⟩, ?_⟩
                simp [intOf]; omega
              · go_wp2_with fail
                go_ret
                exact ⟨rfl, S4.out.below⟩

end Go.Proofs.Ytcjbiepdggibaaa.St
