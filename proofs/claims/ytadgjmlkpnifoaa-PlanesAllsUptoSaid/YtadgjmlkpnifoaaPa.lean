/- Layer 8: scripts of all calls: the law PlanesAlls (what is read within the bound). -/
import Derived.Test.YtadgjmlkpnifoaaPl
import Derived.Test.YtadgjmlkpnifoaaSl8a
import Derived.Test.YtadgjmlkpnifoaaSl8b
import Derived.Test.YtadgjmlkpnifoaaSl8c
import Derived.Test.YtadgjmlkpnifoaaSl8d
import Derived.Test.YtadgjmlkpnifoaaSl8e
import Derived.Test.YtadgjmlkpnifoaaSl8f
import Derived.Test.YtadgjmlkpnifoaaSl8g
namespace Go.Proofs.Ytadgjmlkpnifoaa.Pq
set_option linter.unusedSimpArgs false
set_option linter.unusedVariables false
open Go Go.RowKit Go.Proofs.Ytadgjmlkpnifoaa Go.Proofs.Ytadgjmlkpnifoaa.Mm Go.Proofs.Ytadgjmlkpnifoaa.Gh Go.Proofs.Ytadgjmlkpnifoaa.Wr Go.Proofs.Ytadgjmlkpnifoaa.St

theorem slices_at (pa : Option Addr) (kind c : Int) (A1 : Option Addr) (n1 c1 : Nat) (D : List Nat) (A2 : Option Addr) (n2 c2 : Nat) (l : List Nat) (A3 : Option Addr) (n3 c3 : Nat) (vs : List Nat) (sf nil : Bool) (ah bh : Int) (w : World) (h : (⟨kind, c, A1, n1, c1, D, A2, n2, c2, l, A3, n3, c3, vs, sf, nil, ah, bh⟩ : Op8).Ok w) (k1 : 1 ≤ kind) (k2 : kind ≤ 2) :
    Calls Try.prog 45 #[.pointer pa, .agg #[.int .i64 kind, .int .u16 c, .slice A1 n1 c1, .slice A2 n2 c2, .slice A3 n3 c3, .bool sf, .bool nil, .int .i64 ah, .int .i64 bh]] w fun e w' => e = .returned (.bool true) ∧ St w w' [] [] := by
  obtain ⟨h0, hc, hD, hl, hw, hn1, hn2, hn3, r1, r2, r3, d8, l8, w16⟩ := h
  simp only at h0 hc hD hl hw hn1 hn2 hn3 r1 r2 r3 d8 l8 w16
  obtain ⟨c, rfl⟩ := Int.eq_ofNat_of_zero_le h0
  have hc' : c < 65536 := by omega
  have hk : kind = 1 ∨ kind = 2 := by omega
  cases pa with
  | none =>
    cases sf with
    | true =>
      rcases hk with rfl | rfl
      · exact sl_mul_same_nil c A1 n1 c1 D A2 n2 c2 l A3 n3 c3 nil ah bh w hc' hD hl hn1 hn2 r1 r2 d8 l8
      · exact sl_add_same_nil c A1 n1 c1 D A2 n2 c2 l A3 n3 c3 nil ah bh w hc' hD hl hn1 hn2 r1 r2 d8 l8
    | false =>
      rcases hk with rfl | rfl
      · exact sl_mul_two_nil c A1 n1 c1 D A2 n2 c2 l A3 n3 c3 nil ah bh w hc' hD hl hn1 hn2 r1 r2 d8 l8
      · exact sl_add_two_nil c A1 n1 c1 D A2 n2 c2 l A3 n3 c3 nil ah bh w hc' hD hl hn1 hn2 r1 r2 d8 l8
  | some k =>
    cases sf with
    | true =>
      rcases Nat.mod_two_eq_zero_or_one n2 with he | he
      · rcases hk with rfl | rfl
        · exact sl_mul_same_even k c A1 n1 c1 D A2 n2 c2 l A3 n3 c3 nil ah bh w hc' hD hl hn1 hn2 r1 r2 d8 l8 he
        · exact sl_add_same_even k c A1 n1 c1 D A2 n2 c2 l A3 n3 c3 nil ah bh w hc' hD hl hn1 hn2 r1 r2 d8 l8 he
      · rcases hk with rfl | rfl
        · exact sl_mul_same_odd k c A1 n1 c1 D A2 n2 c2 l A3 n3 c3 nil ah bh w hc' hD hl hn1 hn2 r1 r2 d8 l8 he
        · exact sl_add_same_odd k c A1 n1 c1 D A2 n2 c2 l A3 n3 c3 nil ah bh w hc' hD hl hn1 hn2 r1 r2 d8 l8 he
    | false =>
      by_cases hq : n1 = n2
      · subst hq
        rcases Nat.mod_two_eq_zero_or_one n1 with he | he
        · rcases hk with rfl | rfl
          · exact sl_mul_two_even k c A1 c1 D A2 n1 c2 l A3 n3 c3 nil ah bh w hc' hD hl hn1 hn2 r1 r2 d8 l8 he
          · exact sl_add_two_even k c A1 c1 D A2 n1 c2 l A3 n3 c3 nil ah bh w hc' hD hl hn1 hn2 r1 r2 d8 l8 he
        · rcases hk with rfl | rfl
          · exact sl_mul_two_odd k c A1 c1 D A2 n1 c2 l A3 n3 c3 nil ah bh w hc' hD hl hn1 hn2 r1 r2 d8 l8 he
          · exact sl_add_two_odd k c A1 c1 D A2 n1 c2 l A3 n3 c3 nil ah bh w hc' hD hl hn1 hn2 r1 r2 d8 l8 he
      · rcases hk with rfl | rfl
        · exact sl_mul_two_ne k c A1 n1 c1 D A2 n2 c2 l A3 n3 c3 nil ah bh w hc' hD hl hn1 hn2 r1 r2 d8 l8 hq
        · exact sl_add_two_ne k c A1 n1 c1 D A2 n2 c2 l A3 n3 c3 nil ah bh w hc' hD hl hn1 hn2 r1 r2 d8 l8 hq

set_option maxRecDepth 100000 in
set_option maxHeartbeats 4000000 in
theorem one_slices (pa : Option Addr) (kind c : Int) (A1 : Option Addr) (n1 c1 : Nat) (D : List Nat) (A2 : Option Addr) (n2 c2 : Nat) (l : List Nat) (A3 : Option Addr) (n3 c3 : Nat) (vs : List Nat) (sf nil : Bool) (ah bh : Int) (w : World) (h : (⟨kind, c, A1, n1, c1, D, A2, n2, c2, l, A3, n3, c3, vs, sf, nil, ah, bh⟩ : Op8).Ok w) (k1 : 1 ≤ kind) (k2 : kind ≤ 2) :
    Calls Try.prog 40 #[.pointer pa, .agg #[.int .i64 kind, .int .u16 c, .slice A1 n1 c1, .slice A2 n2 c2, .slice A3 n3 c3, .bool sf, .bool nil, .int .i64 ah, .int .i64 bh]] w fun e w' => e = .returned (.bool true) ∧ St w w' [] [] := by
  have HO := Lib.hid h
  have K1 := Lib.hid k1; have K2 := Lib.hid k2
  clear h
  have SA := Lib.hid (St.start w)
  have hk : kind = 1 ∨ kind = 2 := by omega
  clear k1 k2
  rcases hk with rfl | rfl
  all_goals
    go_enter Try.func40, Try.ntmps40
    go_wp2_with ((with_reducible refine at_slot (N := 3) rfl ?_); refine box_law rfl 72 _ _ rfl rfl SA.out ?_; intro ob w0 hs; have SB := Lib.hid hs; clear hs SA; have oc0 := (SB.out.blk mem0).cell (i := 0) rfl; have oc1 := (SB.out.blk mem0).cell (i := 1) rfl; have oc2 := (SB.out.blk mem0).cell (i := 2) rfl; have oc3 := (SB.out.blk mem0).cell (i := 3) rfl; have oc4 := (SB.out.blk mem0).cell (i := 4) rfl; have oc5 := (SB.out.blk mem0).cell (i := 5) rfl; have oc6 := (SB.out.blk mem0).cell (i := 6) rfl; have oc7 := (SB.out.blk mem0).cell (i := 7) rfl; have oc8 := (SB.out.blk mem0).cell (i := 8) rfl)
    go_wp2_with fail
    refine (slices_at pa _ c A1 n1 c1 D A2 n2 c2 l A3 n3 c3 vs sf nil ah bh _ (HO.out.ext SB.out) K1.out K2.out).mono ?_
    rintro e w1 ⟨rfl, hh⟩
    have h1 := SB.out.call hh; clear hh SB
    try simp only [List.nil_append, List.cons_append, List.append_eq, Int.toNat_natCast] at h1
    have S1 := Lib.hid h1; clear h1
    go_wp2_with fail
    go_ret
    exact ⟨rfl, S1.out.nil⟩

theorem quarters2 (c : Nat) (w : World) (hc : c < 65536) : Calls Try.prog 18 #[.int .u16 (c : Int)] w fun e w' => ∃ A cp N, PortL A (qs c 4) N ∧ e = .returned (.slice A (4 : Nat) cp) ∧ St w w' [] N :=
  (quarters_st c w hc).mono fun _ _ ⟨A, cp, N, he, hp, hs⟩ => ⟨A, cp, N, hp, he, hs⟩
theorem rquarters2 (c : Nat) (w : World) (hc : c < 65536) : Calls Try.prog 39 #[.int .u16 (c : Int)] w fun e w' => ∃ A cp N, PortL A (qs c 4) N ∧ e = .returned (.slice A (4 : Nat) cp) ∧ St w w' [] N :=
  (rquarters_st c w hc).mono fun _ _ ⟨A, cp, N, he, hp, hs⟩ => ⟨A, cp, N, hp, he, hs⟩

set_option maxRecDepth 100000 in
set_option maxHeartbeats 4000000 in
theorem one_quarters (pa : Option Addr) (kind c : Int) (A1 : Option Addr) (n1 c1 : Nat) (D : List Nat) (A2 : Option Addr) (n2 c2 : Nat) (l : List Nat) (A3 : Option Addr) (n3 c3 : Nat) (vs : List Nat) (sf nil : Bool) (ah bh : Int) (w : World) (h : (⟨kind, c, A1, n1, c1, D, A2, n2, c2, l, A3, n3, c3, vs, sf, nil, ah, bh⟩ : Op8).Ok w) (k1 : kind = 7) :
    Calls Try.prog 40 #[.pointer pa, .agg #[.int .i64 kind, .int .u16 c, .slice A1 n1 c1, .slice A2 n2 c2, .slice A3 n3 c3, .bool sf, .bool nil, .int .i64 ah, .int .i64 bh]] w fun e w' => e = .returned (.bool true) ∧ St w w' [] [] := by
  obtain ⟨c, rfl⟩ := Int.eq_ofNat_of_zero_le h.h0
  have hc : c < 65536 := by have := h.hc; simp only at this; omega
  clear h
  subst k1
  have SA := Lib.hid (St.start w)
  go_enter Try.func40, Try.ntmps40
  go_wp2_with ((with_reducible refine at_slot (N := 3) rfl ?_); refine box_law rfl 72 _ _ rfl rfl SA.out ?_; intro ob w0 hs; have SB := Lib.hid hs; clear hs SA; have oc0 := (SB.out.blk mem0).cell (i := 0) rfl; have oc1 := (SB.out.blk mem0).cell (i := 1) rfl)
  have HCC : Hid (∀ w' N', St w0 w' [] N' → w'.cell? ⟨ob, 1, none⟩ = some (.int .u16 (c : Int))) := Lib.hid (fun w' N' hs => keep_cell hs oc1)
  clear oc0
  have S0 := Lib.hid (St.start w0)
  go_wp2_with fail
  have S1 := Lib.hid S0.out.drew; clear S0
  go_region_held3 (fun w' => w'.cell? ⟨ob, 1, none⟩ = some (.int .u16 (c : Int))) (first | go_keep | exact HCC.out _ _ S1.out | exact HCC.out _ _ S2.out | exact HCC.out _ _ S3.out | exact HCC.out _ _ S4.out) (first
    | (go_at_call 18; refine (quarters2 c _ hc).mono ?_; rintro e w2 ⟨AQ, cq, NQ, hpq, rfl, hh⟩; have h2 := S1.out.call hh; clear hh S1; (try simp only [List.nil_append, List.cons_append, List.append_eq, Int.toNat_natCast] at h2); have HP1 := Lib.hid hpq; clear hpq; have S2 := Lib.hid h2; clear h2)
    | (go_at_call 39; refine (rquarters2 c _ hc).mono ?_; rintro e w3 ⟨AR, cr, NR, hpr, rfl, hh⟩; have h3 := S2.out.call hh; clear hh S2; (try simp only [List.nil_append, List.cons_append, List.append_eq, Int.toNat_natCast] at h3); have HP2 := Lib.hid hpr; clear hpr; have S3 := Lib.hid h3; clear h3)
    | (go_at_call 28; refine (rows_st (qs_length c 4) (by decide) (qs_len c) (HP1.out _ _ [] _ S3.out (fun e he => by simp [he])) (HP2.out _ _ [] _ S3.out (fun e he => by simp [he]))).mono ?_; rintro e w4 ⟨rfl, hh⟩; have h4 := S3.out.call hh; clear hh S3; (try simp only [List.nil_append, List.cons_append, List.append_eq, Int.toNat_natCast] at h4); have S4 := Lib.hid h4; clear h4))
  go_wp2_with fail
  go_ret
  exact ⟨rfl, (SB.out.call S4.out).nil⟩

set_option maxHeartbeats 1000000 in
theorem alls_walk (A : Option Addr) (n cp : Nat) (xs : List T8) (w : World) (h : (Ku.kSliceU kOp8 128).ok w.heap.size w [.slice A n cp] xs) :
    Calls Try.prog 10 #[.slice A n cp] w fun e w' => e = .returned (.bool true) ∧ Below w.heap.size w w' := by
  obtain ⟨⟨A', c', he, _, hm, hr, hrow⟩, hu⟩ := h
  injection he with he _
  injection he with e1 e2 e3
  subst e1 e2 e3
  have hl : xs.length ≤ 9223372036854775807 := by omega
  have HR := Lib.hid hrow
  clear hrow hm hr
  have h1 : OneOk 1 7 := fun pa kind c A1 n1 c1 D A2 n2 c2 l A3 n3 c3 vs sf nil ah bh w ho k1 k2 => by
    by_cases q1 : kind ≤ 2
    · exact one_slices pa kind c A1 n1 c1 D A2 n2 c2 l A3 n3 c3 vs sf nil ah bh w ho k1 q1
    · by_cases q2 : kind ≤ 6
      · exact one_packs pa kind c A1 n1 c1 D A2 n2 c2 l A3 n3 c3 vs sf nil ah bh w ho (by omega) q2
      · exact one_quarters pa kind c A1 n1 c1 D A2 n2 c2 l A3 n3 c3 vs sf nil ah bh w ho (by omega)
  go_enter Try.func10, Try.ntmps10
  go_wp2_with (go_at_call 27; refine (plays8_st 1 7 h1 rfl hl HR.out).mono ?_; rintro e w' ⟨rfl, hb⟩)
  go_ret
  exact ⟨rfl, hb.below⟩

end Go.Proofs.Ytadgjmlkpnifoaa.Pq
