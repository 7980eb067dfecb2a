/- Layer 9: the law KernelCalls: the script (printed by gen/mk_vg.py). -/
import Derived.Test.YtdbfkjhdnbmpeaaVd
import Derived.Test.YtdbfkjhdnbmpeaaUa

namespace Go.Proofs.Ytdbfkjhdnbmpeaa.Sk
set_option linter.unusedSimpArgs false
set_option linter.unusedVariables false
open Go Go.RowKit Go.Proofs.Ytdbfkjhdnbmpeaa Go.Proofs.Ytdbfkjhdnbmpeaa.Mm Go.Proofs.Ytdbfkjhdnbmpeaa.Gf Go.Proofs.Ytdbfkjhdnbmpeaa.Wr Go.Proofs.Ytdbfkjhdnbmpeaa.Nb Go.Proofs.Ytdbfkjhdnbmpeaa.St

section
variable {p j : Nat} {S PR M : List Ent} {w0 w : World} {a b r n m : Nat} {D l : List Nat}
theorem rdH (h : St w0 w [] (PR ++ bt a D :: M)) (hb : bt b l ∈ PR) : Rd w (some ⟨b, 0, none⟩) l ∧ Off [a] (some ⟨b, 0, none⟩) :=
  ⟨h.rd (List.mem_append_left _ hb), Off.some (fun hm => by
    have := h.apart hb (e' := bt a D) (by simp)
    simp at hm
    exact this hm)⟩
theorem mulH {c : Nat} (SE : SetE p j S) (h : St w0 w [] (PR ++ bt a D :: M)) (hS : ∀ e ∈ S, e ∈ M) (hb : bt b l ∈ PR) (hc : c < 256) (hD : D.length = n) (h8D : B8 D) (hl : l.length = m) (h8 : B8 l) (hn : n ≤ 140737488351232) :
    Calls Try.prog 26 #[.pointer (some ⟨p, 0, none⟩), .int .u8 (c : Int), .slice (some ⟨a, 0, none⟩) n n, .slice (some ⟨b, 0, none⟩) m m] w fun e w' => e = .returned (.int .i64 (lenE n m)) ∧ St w0 w' [] (PR ++ bt a (mulD c D l) :: M) := by
  unfold lenE mulD
  by_cases hnm : n = m
  · subst hnm
    rw [if_pos rfl, if_pos (by rw [hD, hl])]
    have := mulS (X := []) (M1 := PR) (M2 := M) (c := (c : Int)) SE h (fun e he => by simp [hS e he]) (by omega) (by omega) hD h8D hl h8 (Nat.le_refl _) hn (rdH h hb)
    rw [Int.toNat_natCast] at this
    exact this
  · rw [if_neg hnm, if_neg (by rw [hD, hl]; exact hnm)]
    exact (smul_lens SE (There.of h (fun e he => by simp [hS e he])) hnm).mono fun e w' ⟨he, hw⟩ => ⟨he, by subst hw; exact h⟩
theorem addH {c : Nat} (SE : SetE p j S) (h : St w0 w [] (PR ++ bt a D :: M)) (hS : ∀ e ∈ S, e ∈ M) (hb : bt b l ∈ PR) (hc : c < 256) (hD : D.length = n) (h8D : B8 D) (hl : l.length = m) (h8 : B8 l) (hn : n ≤ 140737488351232) :
    Calls Try.prog 17 #[.pointer (some ⟨p, 0, none⟩), .int .u8 (c : Int), .slice (some ⟨a, 0, none⟩) n n, .slice (some ⟨b, 0, none⟩) m m] w fun e w' => e = .returned (.int .i64 (lenE n m)) ∧ St w0 w' [] (PR ++ bt a (addD c D l) :: M) := by
  unfold lenE addD
  by_cases hnm : n = m
  · subst hnm
    rw [if_pos rfl, if_pos (by rw [hD, hl])]
    have := addS (X := []) (M1 := PR) (M2 := M) (c := (c : Int)) SE h (fun e he => by simp [hS e he]) (by omega) (by omega) hD h8D hl h8 (Nat.le_refl _) hn (rdH h hb)
    rw [Int.toNat_natCast] at this
    exact this
  · rw [if_neg hnm, if_neg (by rw [hD, hl]; exact hnm)]
    exact (sadd_lens SE (There.of h (fun e he => by simp [hS e he])) hnm).mono fun e w' ⟨he, hw⟩ => ⟨he, by subst hw; exact h⟩
theorem xorH (h : St w0 w [] (PR ++ bt a D :: M)) (hb : bt b l ∈ PR) (hD : D.length = n) (h8D : B8 D) (hl : l.length = m) (h8 : B8 l) (hn : n ≤ 140737488351232) :
    Calls Try.prog 22 #[.slice (some ⟨a, 0, none⟩) n n, .slice (some ⟨b, 0, none⟩) m m] w fun e w' => e = .returned (.int .i64 (lenE n m)) ∧ St w0 w' [] (PR ++ bt a (xorD D l) :: M) := by
  unfold lenE xorD
  by_cases hnm : n = m
  · subst hnm
    rw [if_pos rfl, if_pos (by rw [hD, hl])]
    exact xorS (X := []) (M1 := PR) (M2 := M) h hD h8D hl h8 hn (rdH h hb)
  · rw [if_neg hnm, if_neg (by rw [hD, hl]; exact hnm)]
    exact (xor_lens _ _ _ _ _ _ _ hnm).mono fun e w' ⟨he, hw⟩ => ⟨he, by subst hw; exact h⟩
variable {A' : Option Addr} {c' k : Nat} {row : List Nat} {srcs : List (List Nat)} {bs : List Nat} {G : List Ent}
theorem dotH (SE : SetE p j S) (h : St w0 w [] (PR ++ bt a D :: M)) (hS : ∀ e ∈ S, e ∈ M) (hr : bt r row ∈ PR) (hG : ∀ e ∈ G ++ ents bs srcs, e ∈ PR) (hc : CopyL A' m c' bs srcs G) (hD : D.length = n) (h8D : B8 D) (hk : row.length = k) (hr8 : B8 row) (hf : Fit srcs) (hs8 : B8L srcs) (hn : n ≤ 140737488351232) :
    Calls Try.prog 18 #[.pointer (some ⟨p, 0, none⟩), .slice (some ⟨r, 0, none⟩) k k, .slice A' m c', .slice (some ⟨a, 0, none⟩) n n] w fun e w' => e = .returned (.int .i64 (dotE row srcs n)) ∧ St w0 w' [] (PR ++ bt a (dotD row srcs D) :: M) := by
  have hx : ∀ b ∈ [a], ∃ e ∈ bt a D :: M, e.b = b := fun b hb => ⟨bt a D, by simp, by simp at hb; exact hb.symm⟩
  have hs := hc.rdT (X := PR) (M := bt a D :: M) h (fun e he => hG e (List.mem_append_left _ he)) (fun e he => hG e (List.mem_append_right _ he)) hx
  have hm := hc.2.1.symm
  unfold dotE dotD
  by_cases hok : DotOk row srcs n
  · rw [if_pos hok, if_pos (by rw [hD]; exact hok), hD]
    exact dotS (X := []) (M1 := PR) (M2 := M) SE h (fun e he => by simp [hS e he]) hD h8D hk (rdH h hr) hr8 hm hf hs hs8 hn hok
  · rw [if_neg hok, if_neg (by rw [hD]; exact hok)]
    exact dotB (X := []) SE h (fun e he => by simp [hS e he]) hk hm hf (hs.sub (by simp)) hn hok
end
theorem add_one {D l : List Nat} (h8 : B8 l) : addD 1 D l = xorD D l := by
  unfold addD xorD
  have e : l.map (gm 1) = l := by
    conv => rhs; rw [← List.map_id l]
    exact List.map_congr_left fun x hx => one_gm (h8 x hx)
  rw [e]
theorem Out.rd {n bw : Nat} {E l : List Nat} {w0 w : World} {N : List Ent} (h : Out n E l) (hs : St w0 w [] N) (hm : bt bw E ∈ N) : Rd w (some ⟨bw, 0, none⟩) l := by
  have := (hs.rd hm).piece 0 n
  rw [List.drop_zero, h.2.2.2] at this
  exact this

set_option maxRecDepth 100000 in
set_option maxHeartbeats 8000000 in
theorem short_st {p j : Nat} {S K : List Ent} {w0 w : World} {k : Int} {c : Nat} {A1 A2 A3 A4 A5 A6 : Option Addr} {n1 n2 n3 n4 n5 n6 c1 c2 c3 c4 c5 c6 : Nat} {f t : Int} {row dst src : List Nat} {rows srcs dsts : List (List Nat)} (hSE : SetE p j S) (h : St w0 w [] K) (hSK : ∀ e ∈ S, e ∈ K) (l1 : row.length = n1) (l2 : rows.length = n2) (l3 : srcs.length = n3) (l4 : dsts.length = n4) (l5 : dst.length = n5) (l6 : src.length = n6) (u1 : n1 ≤ 140737488351232) (u5 : n5 ≤ 140737488351232) (u6 : n6 ≤ 140737488351232) (hc : c < 256) (r1 : Rd w0 A1 row) (r2 : RdL w0 [] A2 rows) (r3 : RdL w0 [] A3 srcs) (r4 : RdL w0 [] A4 dsts) (r5 : Rd w0 A5 dst) (r6 : Rd w0 A6 src) (f2 : Fit rows) (f3 : Fit srcs) (f4 : Fit dsts) (b1 : B8 row) (b2 : B8L rows) (b3 : B8L srcs) (b4 : B8L dsts) (b5 : B8 dst) (b6 : B8 src) :
    Calls Try.prog 31 #[.pointer (some ⟨p, 0, none⟩), .agg (callC k c A1 A2 A3 A4 A5 A6 n1 n2 n3 n4 n5 n6 c1 c2 c3 c4 c5 c6 f t)] w fun e w' => e = .returned (.bool true) ∧ St w0 w' [] K := by
  have S0 := Lib.hid h; have SE := Lib.hid hSE; have SK := Lib.hid hSK; have L1 := Lib.hid l1; have L2 := Lib.hid l2; have L3 := Lib.hid l3; have L4 := Lib.hid l4; have L5 := Lib.hid l5; have L6 := Lib.hid l6; have R1 := Lib.hid r1; have R2 := Lib.hid r2; have R3 := Lib.hid r3; have R4 := Lib.hid r4; have R5 := Lib.hid r5; have R6 := Lib.hid r6; have F2 := Lib.hid f2; have F3 := Lib.hid f3; have F4 := Lib.hid f4; have B1 := Lib.hid b1; have B2 := Lib.hid b2; have B3 := Lib.hid b3; have B4 := Lib.hid b4; have B5 := Lib.hid b5; have B6 := Lib.hid b6; have U1 := Lib.hid u1; have U5 := Lib.hid u5; have U6 := Lib.hid u6
  clear h hSE hSK l1 l2 l3 l4 l5 l6 r1 r2 r3 r4 r5 r6 f2 f3 f4 b1 b2 b3 b4 b5 b6
  go_enter Try.func31, Try.ntmps31
  go_wp2_with ((with_reducible refine at_slot (N := 3) rfl ?_); refine box_law rfl _ _ (callC k c A1 A2 A3 A4 A5 A6 n1 n2 n3 n4 n5 n6 c1 c2 c3 c4 c5 c6 f t) rfl rfl S0.out ?_; intro ob w1 h1; (try simp only [World.size_alloc, List.nil_append, List.cons_append, List.append_eq] at h1); have S1 := Lib.hid h1; clear h1 S0)
  obtain ⟨KX, HKX⟩ : ∃ KX, Hid ((⟨ob, 42, callC k c A1 A2 A3 A4 A5 A6 n1 n2 n3 n4 n5 n6 c1 c2 c3 c4 c5 c6 f t⟩ : Ent) :: K = KX) := ⟨_, Lib.hid rfl⟩
  rw [HKX.out] at S1
  have HC : Hid (∀ (w' : World) (N' : List Ent), St w0 w' [] N' → (∀ e ∈ KX, e ∈ N') → w'.cell? ⟨ob, 0, none⟩ = some (.int .i64 k) ∧ w'.cell? ⟨ob, 1, none⟩ = some (.int .u8 (c : Int)) ∧ w'.cell? ⟨ob, 2, none⟩ = some (.slice A1 n1 c1) ∧ w'.cell? ⟨ob, 3, none⟩ = some (.slice A2 n2 c2) ∧ w'.cell? ⟨ob, 4, none⟩ = some (.slice A3 n3 c3) ∧ w'.cell? ⟨ob, 5, none⟩ = some (.slice A4 n4 c4) ∧ w'.cell? ⟨ob, 6, none⟩ = some (.slice A5 n5 c5) ∧ w'.cell? ⟨ob, 7, none⟩ = some (.slice A6 n6 c6) ∧ w'.cell? ⟨ob, 8, none⟩ = some (.int .i64 f) ∧ w'.cell? ⟨ob, 9, none⟩ = some (.int .i64 t)) := Lib.hid (fun w' N' hs hm => call_cells hs (hm ⟨ob, 42, callC k c A1 A2 A3 A4 A5 A6 n1 n2 n3 n4 n5 n6 c1 c2 c3 c4 c5 c6 f t⟩ (by rw [← HKX.out]; simp)))
  have SMK : Hid (∀ e ∈ S, e ∈ KX) := Lib.hid (fun e he => by rw [← HKX.out]; simp [SK.out e he])
  have HKS : Hid (K.Sublist KX) := Lib.hid (by rw [← HKX.out]; exact List.sublist_cons_self _ _)
  clear HKX SK
  have S2 := Lib.hid S1.out.drew; clear S1
  go_region_held3 (fun w' => w'.cell? ⟨ob, 0, none⟩ = some (.int .i64 k) ∧ w'.cell? ⟨ob, 1, none⟩ = some (.int .u8 (c : Int)) ∧ w'.cell? ⟨ob, 2, none⟩ = some (.slice A1 n1 c1) ∧ w'.cell? ⟨ob, 3, none⟩ = some (.slice A2 n2 c2) ∧ w'.cell? ⟨ob, 4, none⟩ = some (.slice A3 n3 c3) ∧ w'.cell? ⟨ob, 5, none⟩ = some (.slice A4 n4 c4) ∧ w'.cell? ⟨ob, 6, none⟩ = some (.slice A5 n5 c5) ∧ w'.cell? ⟨ob, 7, none⟩ = some (.slice A6 n6 c6) ∧ w'.cell? ⟨ob, 8, none⟩ = some (.int .i64 f) ∧ w'.cell? ⟨ob, 9, none⟩ = some (.int .i64 t)) (first | exact HC.out _ _ S2.out (by intro e he; simp [he]) | exact HC.out _ _ S3.out (by intro e he; simp [he]) | exact HC.out _ _ S4.out (by intro e he; simp [he]) | exact HC.out _ _ S5.out (by intro e he; simp [he]) | exact HC.out _ _ S6.out (by intro e he; simp [he]) | exact HC.out _ _ S7.out (by intro e he; simp [he]) | exact HC.out _ _ S8.out (by intro e he; simp [he]) | exact HC.out _ _ S9.out (by intro e he; simp [he]) | exact HC.out _ _ S10.out (by intro e he; simp [he]) | go_keep) (first
    | (go_at_call 16; (with_reducible refine (copied_st L5.out (by omega) (S2.out.ext R5.out)).mono ?_); rintro e w3 ⟨a, rfl, hh⟩; have K3 := Lib.hid hh; have h3 := S2.out.call hh; clear hh; (try simp only [List.nil_append, List.cons_append, List.append_eq, Int.toNat_natCast] at h3); have S3 := Lib.hid h3; clear h3)
    | (go_at_call 16; (with_reducible refine (copied_st L6.out (by omega) (S3.out.ext R6.out)).mono ?_); rintro e w4 ⟨b, rfl, hh⟩; have K4 := Lib.hid hh; have h4 := S3.out.call hh; clear hh S3; (try simp only [List.nil_append, List.cons_append, List.append_eq, Int.toNat_natCast] at h4); have S4 := Lib.hid h4; clear h4))
  go_wp2_with fail
  have S5 := Lib.hid S4.out.drew; clear S4
  go_region_held3 (fun w' => w'.cell? ⟨ob, 0, none⟩ = some (.int .i64 k) ∧ w'.cell? ⟨ob, 1, none⟩ = some (.int .u8 (c : Int)) ∧ w'.cell? ⟨ob, 2, none⟩ = some (.slice A1 n1 c1) ∧ w'.cell? ⟨ob, 3, none⟩ = some (.slice A2 n2 c2) ∧ w'.cell? ⟨ob, 4, none⟩ = some (.slice A3 n3 c3) ∧ w'.cell? ⟨ob, 5, none⟩ = some (.slice A4 n4 c4) ∧ w'.cell? ⟨ob, 6, none⟩ = some (.slice A5 n5 c5) ∧ w'.cell? ⟨ob, 7, none⟩ = some (.slice A6 n6 c6) ∧ w'.cell? ⟨ob, 8, none⟩ = some (.int .i64 f) ∧ w'.cell? ⟨ob, 9, none⟩ = some (.int .i64 t)) (first | exact HC.out _ _ S5.out (by intro e he; simp [he]) | exact HC.out _ _ S6.out (by intro e he; simp [he]) | exact HC.out _ _ S7.out (by intro e he; simp [he]) | exact HC.out _ _ S8.out (by intro e he; simp [he]) | exact HC.out _ _ S9.out (by intro e he; simp [he]) | exact HC.out _ _ S10.out (by intro e he; simp [he]) | exact HC.out _ _ S11.out (by intro e he; simp [he]) | exact HC.out _ _ S12.out (by intro e he; simp [he]) | exact HC.out _ _ S13.out (by intro e he; simp [he]) | go_keep) (first
    | (go_at_call 16; (with_reducible refine (copied_st L1.out (by omega) (S5.out.ext R1.out)).mono ?_); rintro e w6 ⟨r, rfl, hh⟩; have K6 := Lib.hid hh; have h6 := S5.out.call hh; clear hh; (try simp only [List.nil_append, List.cons_append, List.append_eq, Int.toNat_natCast] at h6); have S6 := Lib.hid h6; clear h6)
    | (go_at_call 13; (with_reducible refine (copies_st L3.out F3.out (S6.out.extL R3.out)).mono ?_); rintro e w7 ⟨AS, cS, bsS, GS, rfl, hc, hh⟩; have K7 := Lib.hid hh; have C7 := Lib.hid hc; clear hc; have h7 := S6.out.call hh; clear hh S6; (try simp only [List.nil_append, List.cons_append, List.append_eq, Int.toNat_natCast] at h7); have S7 := Lib.hid h7; clear h7))
  obtain ⟨PR, HPR⟩ : ∃ X, Hid (GS ++ (ents bsS srcs ++ [bt r row, bt b src]) = X) := ⟨_, Lib.hid rfl⟩
  have S9 : Hid (St w0 w7 [] (PR ++ bt a dst :: KX)) := Lib.hid (by rw [← HPR.out]; simpa only [List.append_assoc, List.cons_append, List.nil_append] using S7.out)
  have HPb : Hid (bt b src ∈ PR) := Lib.hid (by rw [← HPR.out]; simp)
  have HPr : Hid (bt r row ∈ PR) := Lib.hid (by rw [← HPR.out]; simp)
  have HPS : Hid (∀ e ∈ GS ++ ents bsS srcs, e ∈ PR) := Lib.hid (fun e he => by rw [← HPR.out]; simp at he ⊢; rcases he with he | he <;> simp [he])
  have CS := C7
  clear S7 C7 K3 K4 K6 K7 HPR S2 S5
  obtain ⟨z0, z1, z2, z3, z4, z5, z6, z7, z8, z9⟩ := HC.out _ _ S9.out (fun e he => by simp [he])
  by_cases k1 : k = 1
  · subst k1
    go_wp2_with fail
    refine (mulH SE.out S9.out SMK.out HPb.out hc L5.out B5.out L6.out B6.out U5.out).mono ?_
    rintro e w10 ⟨rfl, hh⟩
    clear z0 z1 z2 z3 z4 z5 z6 z7 z8 z9; obtain ⟨z0, z1, z2, z3, z4, z5, z6, z7, z8, z9⟩ := HC.out _ _ hh (fun e he => by simp [he])
    have S10 := Lib.hid hh; clear hh S9
    go_wp2_with fail
    refine (dmul_st (c := c) false hc L5.out L6.out U5.out (S10.out.ext R5.out) (S10.out.ext R6.out) B5.out B6.out).mono ?_
    rintro e w11 ⟨bw, E, rfl, hq, hh⟩
    have h11 := S10.out.call hh; clear hh S10
    try simp only [List.nil_append, List.cons_append, List.append_eq, Int.toNat_natCast] at h11
    have HQ0 := Lib.hid hq; clear hq
    have S11 := Lib.hid h11; clear h11
    clear z0 z1 z2 z3 z4 z5 z6 z7 z8 z9
    obtain ⟨z0, z1, z2, z3, z4, z5, z6, z7, z8, z9⟩ := HC.out _ _ S11.out (fun e he => by simp [he])
    have HQ : Hid (Out n5 E (mulD c dst src)) := Lib.hid (by have hq := HQ0.out; exact (by simpa only [Bool.false_eq_true, if_false] using hq))
    clear HQ0
    have LX : Hid ((mulD c dst src).length = n5) := Lib.hid (by rw [mulD_length, L5.out])
    have BX : Hid (B8 (mulD c dst src)) := Lib.hid (mulD_b8 hc B5.out)
    generalize mulD c dst src = X at *
    go_wp2_with fail
    refine (equal_same LX.out (by omega) BX.out (S11.out.rd (by simp : bt a X ∈ _)) (HQ.out.rd S11.out mem0)).mono ?_
    rintro e _ ⟨rfl, n12, rfl⟩
    have h12 := S11.out.drewN (n := n12); clear S11
    try simp only [World.drewN_drewN] at h12
    have S12 := Lib.hid h12; clear h12
    go_wp2_with fail
    refine (equal_same L6.out (by omega) B6.out (S12.out.rd (by simp [HPb.out] : bt b src ∈ _)) (S12.out.ext R6.out)).mono ?_
    rintro e _ ⟨rfl, n13, rfl⟩
    have h13 := S12.out.drewN (n := n13); clear S12
    try simp only [World.drewN_drewN] at h13
    have S13 := Lib.hid h13; clear h13
    go_wp2_with fail
    refine (equal_same L1.out (by omega) B1.out (S13.out.rd (by simp [HPr.out] : bt r row ∈ _)) (S13.out.ext R1.out)).mono ?_
    rintro e _ ⟨rfl, n14, rfl⟩
    have h14 := S13.out.drewN (n := n14); clear S13
    try simp only [World.drewN_drewN] at h14
    have S14 := Lib.hid h14; clear h14
    go_wp2_with fail
    refine (all_same L3.out F3.out B3.out (CS.out.rd0 S14.out (fun e he => by simp [HPS.out e (List.mem_append_left _ he)]) (fun e he => by simp [HPS.out e (List.mem_append_right _ he)])) (S14.out.extL R3.out)).mono ?_
    rintro e _ ⟨rfl, n15, rfl⟩
    have h15 := S14.out.drewN (n := n15); clear S14
    try simp only [World.drewN_drewN] at h15
    have S15 := Lib.hid h15; clear h15
    go_wp2_with fail
    go_ret
    exact ⟨rfl, by simpa only [World.drewN_drewN] using S15.out.drop (((HKS.out.trans ((List.sublist_cons_self _ _).trans (List.sublist_append_right _ _)))).cons _)⟩
  · have p1 : (k == 1) = false := by simpa using k1
    by_cases k2 : k = 2
    · subst k2
      clear p1 k1
      go_wp2_with fail
      refine (addH SE.out S9.out SMK.out HPb.out hc L5.out B5.out L6.out B6.out U5.out).mono ?_
      rintro e w10 ⟨rfl, hh⟩
      clear z0 z1 z2 z3 z4 z5 z6 z7 z8 z9; obtain ⟨z0, z1, z2, z3, z4, z5, z6, z7, z8, z9⟩ := HC.out _ _ hh (fun e he => by simp [he])
      have S10 := Lib.hid hh; clear hh S9
      go_wp2_with fail
      refine (dmul_st (c := c) true hc L5.out L6.out U5.out (S10.out.ext R5.out) (S10.out.ext R6.out) B5.out B6.out).mono ?_
      rintro e w11 ⟨bw, E, rfl, hq, hh⟩
      have h11 := S10.out.call hh; clear hh S10
      try simp only [List.nil_append, List.cons_append, List.append_eq, Int.toNat_natCast] at h11
      have HQ0 := Lib.hid hq; clear hq
      have S11 := Lib.hid h11; clear h11
      clear z0 z1 z2 z3 z4 z5 z6 z7 z8 z9
      obtain ⟨z0, z1, z2, z3, z4, z5, z6, z7, z8, z9⟩ := HC.out _ _ S11.out (fun e he => by simp [he])
      have HQ : Hid (Out n5 E (addD c dst src)) := Lib.hid (by have hq := HQ0.out; exact (by simpa only [if_true] using hq))
      clear HQ0
      have LX : Hid ((addD c dst src).length = n5) := Lib.hid (by rw [addD_length, L5.out])
      have BX : Hid (B8 (addD c dst src)) := Lib.hid (addD_b8 hc B5.out B6.out)
      generalize addD c dst src = X at *
      go_wp2_with fail
      refine (equal_same LX.out (by omega) BX.out (S11.out.rd (by simp : bt a X ∈ _)) (HQ.out.rd S11.out mem0)).mono ?_
      rintro e _ ⟨rfl, n12, rfl⟩
      have h12 := S11.out.drewN (n := n12); clear S11
      try simp only [World.drewN_drewN] at h12
      have S12 := Lib.hid h12; clear h12
      go_wp2_with fail
      refine (equal_same L6.out (by omega) B6.out (S12.out.rd (by simp [HPb.out] : bt b src ∈ _)) (S12.out.ext R6.out)).mono ?_
      rintro e _ ⟨rfl, n13, rfl⟩
      have h13 := S12.out.drewN (n := n13); clear S12
      try simp only [World.drewN_drewN] at h13
      have S13 := Lib.hid h13; clear h13
      go_wp2_with fail
      refine (equal_same L1.out (by omega) B1.out (S13.out.rd (by simp [HPr.out] : bt r row ∈ _)) (S13.out.ext R1.out)).mono ?_
      rintro e _ ⟨rfl, n14, rfl⟩
      have h14 := S13.out.drewN (n := n14); clear S13
      try simp only [World.drewN_drewN] at h14
      have S14 := Lib.hid h14; clear h14
      go_wp2_with fail
      refine (all_same L3.out F3.out B3.out (CS.out.rd0 S14.out (fun e he => by simp [HPS.out e (List.mem_append_left _ he)]) (fun e he => by simp [HPS.out e (List.mem_append_right _ he)])) (S14.out.extL R3.out)).mono ?_
      rintro e _ ⟨rfl, n15, rfl⟩
      have h15 := S14.out.drewN (n := n15); clear S14
      try simp only [World.drewN_drewN] at h15
      have S15 := Lib.hid h15; clear h15
      go_wp2_with fail
      go_ret
      exact ⟨rfl, by simpa only [World.drewN_drewN] using S15.out.drop (((HKS.out.trans ((List.sublist_cons_self _ _).trans (List.sublist_append_right _ _)))).cons _)⟩
    · have p2 : (k == 2) = false := by simpa using k2
      by_cases k3 : k = 3
      · subst k3
        clear p1 k1 p2 k2
        go_wp2_with fail
        refine (xorH S9.out HPb.out L5.out B5.out L6.out B6.out U5.out).mono ?_
        rintro e w10 ⟨rfl, hh⟩
        clear z0 z1 z2 z3 z4 z5 z6 z7 z8 z9; obtain ⟨z0, z1, z2, z3, z4, z5, z6, z7, z8, z9⟩ := HC.out _ _ hh (fun e he => by simp [he])
        have S10 := Lib.hid hh; clear hh S9
        go_wp2_with fail
        refine (dmul_st (c := 1) true (by decide) L5.out L6.out U5.out (S10.out.ext R5.out) (S10.out.ext R6.out) B5.out B6.out).mono ?_
        rintro e w11 ⟨bw, E, rfl, hq, hh⟩
        have h11 := S10.out.call hh; clear hh S10
        try simp only [List.nil_append, List.cons_append, List.append_eq, Int.toNat_natCast] at h11
        have HQ0 := Lib.hid hq; clear hq
        have S11 := Lib.hid h11; clear h11
        clear z0 z1 z2 z3 z4 z5 z6 z7 z8 z9
        obtain ⟨z0, z1, z2, z3, z4, z5, z6, z7, z8, z9⟩ := HC.out _ _ S11.out (fun e he => by simp [he])
        have HQ : Hid (Out n5 E (xorD dst src)) := Lib.hid (by have hq := HQ0.out; exact (by rw [← add_one B6.out]; simpa only [if_true] using hq))
        clear HQ0
        have LX : Hid ((xorD dst src).length = n5) := Lib.hid (by rw [xorD_length, L5.out])
        have BX : Hid (B8 (xorD dst src)) := Lib.hid (xorD_b8 B5.out B6.out)
        generalize xorD dst src = X at *
        go_wp2_with fail
        refine (equal_same LX.out (by omega) BX.out (S11.out.rd (by simp : bt a X ∈ _)) (HQ.out.rd S11.out mem0)).mono ?_
        rintro e _ ⟨rfl, n12, rfl⟩
        have h12 := S11.out.drewN (n := n12); clear S11
        try simp only [World.drewN_drewN] at h12
        have S12 := Lib.hid h12; clear h12
        go_wp2_with fail
        refine (equal_same L6.out (by omega) B6.out (S12.out.rd (by simp [HPb.out] : bt b src ∈ _)) (S12.out.ext R6.out)).mono ?_
        rintro e _ ⟨rfl, n13, rfl⟩
        have h13 := S12.out.drewN (n := n13); clear S12
        try simp only [World.drewN_drewN] at h13
        have S13 := Lib.hid h13; clear h13
        go_wp2_with fail
        refine (equal_same L1.out (by omega) B1.out (S13.out.rd (by simp [HPr.out] : bt r row ∈ _)) (S13.out.ext R1.out)).mono ?_
        rintro e _ ⟨rfl, n14, rfl⟩
        have h14 := S13.out.drewN (n := n14); clear S13
        try simp only [World.drewN_drewN] at h14
        have S14 := Lib.hid h14; clear h14
        go_wp2_with fail
        refine (all_same L3.out F3.out B3.out (CS.out.rd0 S14.out (fun e he => by simp [HPS.out e (List.mem_append_left _ he)]) (fun e he => by simp [HPS.out e (List.mem_append_right _ he)])) (S14.out.extL R3.out)).mono ?_
        rintro e _ ⟨rfl, n15, rfl⟩
        have h15 := S14.out.drewN (n := n15); clear S14
        try simp only [World.drewN_drewN] at h15
        have S15 := Lib.hid h15; clear h15
        go_wp2_with fail
        go_ret
        exact ⟨rfl, by simpa only [World.drewN_drewN] using S15.out.drop (((HKS.out.trans ((List.sublist_cons_self _ _).trans (List.sublist_append_right _ _)))).cons _)⟩
      · have p3 : (k == 3) = false := by simpa using k3
        by_cases k4 : k = 4
        · subst k4
          clear p1 k1 p2 k2 p3 k3
          go_wp2_with fail
          refine (dotH SE.out S9.out SMK.out HPr.out HPS.out CS.out L5.out B5.out L1.out B1.out F3.out B3.out U5.out).mono ?_
          rintro e w10 ⟨rfl, hh⟩
          clear z0 z1 z2 z3 z4 z5 z6 z7 z8 z9; obtain ⟨z0, z1, z2, z3, z4, z5, z6, z7, z8, z9⟩ := HC.out _ _ hh (fun e he => by simp [he])
          have S10 := Lib.hid hh; clear hh S9
          go_wp2_with fail
          refine (ddot_st L1.out L3.out L5.out F3.out U1.out U5.out (S10.out.ext R1.out) (S10.out.extL R3.out) (S10.out.ext R5.out) B1.out B3.out B5.out).mono ?_
          rintro e w11 ⟨bw, E, rfl, hq, hh⟩
          have h11 := S10.out.call hh; clear hh S10
          try simp only [List.nil_append, List.cons_append, List.append_eq, Int.toNat_natCast] at h11
          have HQ0 := Lib.hid hq; clear hq
          have S11 := Lib.hid h11; clear h11
          clear z0 z1 z2 z3 z4 z5 z6 z7 z8 z9
          obtain ⟨z0, z1, z2, z3, z4, z5, z6, z7, z8, z9⟩ := HC.out _ _ S11.out (fun e he => by simp [he])
          have HQ : Hid (Out n5 E (dotD row srcs dst)) := Lib.hid (by have hq := HQ0.out; exact (hq))
          clear HQ0
          have LX : Hid ((dotD row srcs dst).length = n5) := Lib.hid (by rw [dotD_length, L5.out])
          have BX : Hid (B8 (dotD row srcs dst)) := Lib.hid (dotD_b8 B5.out B1.out)
          generalize dotD row srcs dst = X at *
          go_wp2_with fail
          refine (equal_same LX.out (by omega) BX.out (S11.out.rd (by simp : bt a X ∈ _)) (HQ.out.rd S11.out mem0)).mono ?_
          rintro e _ ⟨rfl, n12, rfl⟩
          have h12 := S11.out.drewN (n := n12); clear S11
          try simp only [World.drewN_drewN] at h12
          have S12 := Lib.hid h12; clear h12
          go_wp2_with fail
          refine (equal_same L6.out (by omega) B6.out (S12.out.rd (by simp [HPb.out] : bt b src ∈ _)) (S12.out.ext R6.out)).mono ?_
          rintro e _ ⟨rfl, n13, rfl⟩
          have h13 := S12.out.drewN (n := n13); clear S12
          try simp only [World.drewN_drewN] at h13
          have S13 := Lib.hid h13; clear h13
          go_wp2_with fail
          refine (equal_same L1.out (by omega) B1.out (S13.out.rd (by simp [HPr.out] : bt r row ∈ _)) (S13.out.ext R1.out)).mono ?_
          rintro e _ ⟨rfl, n14, rfl⟩
          have h14 := S13.out.drewN (n := n14); clear S13
          try simp only [World.drewN_drewN] at h14
          have S14 := Lib.hid h14; clear h14
          go_wp2_with fail
          refine (all_same L3.out F3.out B3.out (CS.out.rd0 S14.out (fun e he => by simp [HPS.out e (List.mem_append_left _ he)]) (fun e he => by simp [HPS.out e (List.mem_append_right _ he)])) (S14.out.extL R3.out)).mono ?_
          rintro e _ ⟨rfl, n15, rfl⟩
          have h15 := S14.out.drewN (n := n15); clear S14
          try simp only [World.drewN_drewN] at h15
          have S15 := Lib.hid h15; clear h15
          go_wp2_with fail
          go_ret
          exact ⟨rfl, by simpa only [World.drewN_drewN] using S15.out.drop (((HKS.out.trans ((List.sublist_cons_self _ _).trans (List.sublist_append_right _ _)))).cons _)⟩
        · have p4 : (k == 4) = false := by simpa using k4
          go_wp2_with fail
          go_ret
          exact ⟨rfl, S9.out.drop (HKS.out.trans ((List.sublist_cons_self _ _).trans (List.sublist_append_right _ _)))⟩

end Go.Proofs.Ytdbfkjhdnbmpeaa.Sk

namespace Go.Proofs.Ytdbfkjhdnbmpeaa.Sk
set_option linter.unusedSimpArgs false
set_option linter.unusedVariables false
open Go Go.RowKit Go.Proofs.Ytdbfkjhdnbmpeaa Go.Proofs.Ytdbfkjhdnbmpeaa.Mm Go.Proofs.Ytdbfkjhdnbmpeaa.Gf Go.Proofs.Ytdbfkjhdnbmpeaa.Wr Go.Proofs.Ytdbfkjhdnbmpeaa.Nb Go.Proofs.Ytdbfkjhdnbmpeaa.St

section
variable {p j : Nat} {GT M S PR : List Ent} {bsT : List Nat} {T : List (List Nat)} {w0 w : World} {A3 : Option Addr} {n1 n2 n3 c3 r b : Nat} {f t : Int} {col diff : List Nat}
/-- Spread over lists at hand. -/
theorem sprH (SE : SetE p j S) (h : St w0 w [] (PR ++ (GT ++ (ents bsT T ++ M)))) (hS : ∀ e ∈ S, e ∈ M) (hr : bt r col ∈ PR) (hb : bt b diff ∈ PR) (cT : CopyL A3 n3 c3 bsT T GT) (h1 : col.length = n1) (h2 : diff.length = n2) (hf3 : Fit T) (hn2 : n2 ≤ 140737488351232) (h81 : B8 col) (h82 : B8 diff) (h83 : B8L T) :
    Calls Try.prog 19 #[.pointer (some ⟨p, 0, none⟩), .slice (some ⟨r, 0, none⟩) n1 n1, .slice (some ⟨b, 0, none⟩) n2 n2, .slice A3 n3 c3, .agg #[.int .i64 f, .int .i64 t]] w fun e w' => e = .returned (.int .i64 (sprE col diff T f t)) ∧ St w0 w' [] (PR ++ (GT ++ (ents bsT (sprD col diff T f t) ++ M))) := by
  have hh : St w0 w [] ([] ++ ((PR ++ GT) ++ (ents bsT T ++ M))) := by simpa only [List.nil_append, List.append_assoc] using h
  have h3 : St w0 w [] ((PR ++ GT) ++ (ents bsT T ++ M)) := hh
  have hx : ∀ {l : List Nat} {x : Nat}, bt x l ∈ PR → Rd w (some ⟨x, 0, none⟩) l ∧ Off bsT (some ⟨x, 0, none⟩) := fun {l x} hm => ⟨h.rd (List.mem_append_left _ hm), Off.some fun hb => by
    obtain ⟨e', he', hb'⟩ := ents_of cT.1 hb
    exact h3.apart (e := bt x l) (e' := e') (by simp [hm]) (by simp [he']) hb'.symm⟩
  refine (spreadS SE hh (fun e he => by simp [hS e he]) h1 h2 cT.2.1.symm hf3 hn2 (Nat.le_refl _) h81 h82 h83 cT.1 (hx hr) (hx hb) (cT.rdV hh (fun e he => by simp [he])) (cT.off fun e he hb => ?_)).mono fun e w' ⟨he, hs⟩ => ⟨he, by simpa only [List.append_assoc] using hs⟩
  obtain ⟨e', he', hb'⟩ := ents_of cT.1 hb
  exact h3.apart (e := e) (e' := e') (by simp [he]) (by simp [he']) hb'.symm
end

set_option maxRecDepth 100000 in
set_option maxHeartbeats 8000000 in
theorem long_st {p j : Nat} {S K : List Ent} {w0 w : World} {k : Int} {c : Nat} {A1 A2 A3 A4 A5 A6 : Option Addr} {n1 n2 n3 n4 n5 n6 c1 c2 c3 c4 c5 c6 : Nat} {f t : Int} {row dst src : List Nat} {rows srcs dsts : List (List Nat)} (hSE : SetE p j S) (h : St w0 w [] K) (hSK : ∀ e ∈ S, e ∈ K) (l1 : row.length = n1) (l2 : rows.length = n2) (l3 : srcs.length = n3) (l4 : dsts.length = n4) (l5 : dst.length = n5) (l6 : src.length = n6) (u1 : n1 ≤ 140737488351232) (u5 : n5 ≤ 140737488351232) (u6 : n6 ≤ 140737488351232) (hc : c < 256) (r1 : Rd w0 A1 row) (r2 : RdL w0 [] A2 rows) (r3 : RdL w0 [] A3 srcs) (r4 : RdL w0 [] A4 dsts) (r5 : Rd w0 A5 dst) (r6 : Rd w0 A6 src) (f2 : Fit rows) (f3 : Fit srcs) (f4 : Fit dsts) (b1 : B8 row) (b2 : B8L rows) (b3 : B8L srcs) (b4 : B8L dsts) (b5 : B8 dst) (b6 : B8 src) :
    Calls Try.prog 32 #[.pointer (some ⟨p, 0, none⟩), .agg (callC k c A1 A2 A3 A4 A5 A6 n1 n2 n3 n4 n5 n6 c1 c2 c3 c4 c5 c6 f t)] w fun e w' => e = .returned (.bool true) ∧ St w0 w' [] K := by
  have S0 := Lib.hid h; have SE := Lib.hid hSE; have SK := Lib.hid hSK; have L1 := Lib.hid l1; have L2 := Lib.hid l2; have L3 := Lib.hid l3; have L4 := Lib.hid l4; have L5 := Lib.hid l5; have L6 := Lib.hid l6; have R1 := Lib.hid r1; have R2 := Lib.hid r2; have R3 := Lib.hid r3; have R4 := Lib.hid r4; have R5 := Lib.hid r5; have R6 := Lib.hid r6; have F2 := Lib.hid f2; have F3 := Lib.hid f3; have F4 := Lib.hid f4; have B1 := Lib.hid b1; have B2 := Lib.hid b2; have B3 := Lib.hid b3; have B4 := Lib.hid b4; have B5 := Lib.hid b5; have B6 := Lib.hid b6; have U1 := Lib.hid u1; have U5 := Lib.hid u5; have U6 := Lib.hid u6
  clear h hSE hSK l1 l2 l3 l4 l5 l6 r1 r2 r3 r4 r5 r6 f2 f3 f4 b1 b2 b3 b4 b5 b6
  go_enter Try.func32, Try.ntmps32
  go_wp2_with ((with_reducible refine at_slot (N := 3) rfl ?_); refine box_law rfl _ _ (callC k c A1 A2 A3 A4 A5 A6 n1 n2 n3 n4 n5 n6 c1 c2 c3 c4 c5 c6 f t) rfl rfl S0.out ?_; intro ob w1 h1; (try simp only [World.size_alloc, List.nil_append, List.cons_append, List.append_eq] at h1); have S1 := Lib.hid h1; clear h1 S0)
  obtain ⟨KX, HKX⟩ : ∃ KX, Hid ((⟨ob, 42, callC k c A1 A2 A3 A4 A5 A6 n1 n2 n3 n4 n5 n6 c1 c2 c3 c4 c5 c6 f t⟩ : Ent) :: K = KX) := ⟨_, Lib.hid rfl⟩
  rw [HKX.out] at S1
  have HC : Hid (∀ (w' : World) (N' : List Ent), St w0 w' [] N' → (∀ e ∈ KX, e ∈ N') → w'.cell? ⟨ob, 0, none⟩ = some (.int .i64 k) ∧ w'.cell? ⟨ob, 1, none⟩ = some (.int .u8 (c : Int)) ∧ w'.cell? ⟨ob, 2, none⟩ = some (.slice A1 n1 c1) ∧ w'.cell? ⟨ob, 3, none⟩ = some (.slice A2 n2 c2) ∧ w'.cell? ⟨ob, 4, none⟩ = some (.slice A3 n3 c3) ∧ w'.cell? ⟨ob, 5, none⟩ = some (.slice A4 n4 c4) ∧ w'.cell? ⟨ob, 6, none⟩ = some (.slice A5 n5 c5) ∧ w'.cell? ⟨ob, 7, none⟩ = some (.slice A6 n6 c6) ∧ w'.cell? ⟨ob, 8, none⟩ = some (.int .i64 f) ∧ w'.cell? ⟨ob, 9, none⟩ = some (.int .i64 t)) := Lib.hid (fun w' N' hs hm => call_cells hs (hm ⟨ob, 42, callC k c A1 A2 A3 A4 A5 A6 n1 n2 n3 n4 n5 n6 c1 c2 c3 c4 c5 c6 f t⟩ (by rw [← HKX.out]; simp)))
  have SMK : Hid (∀ e ∈ S, e ∈ KX) := Lib.hid (fun e he => by rw [← HKX.out]; simp [SK.out e he])
  have HKS : Hid (K.Sublist KX) := Lib.hid (by rw [← HKX.out]; exact List.sublist_cons_self _ _)
  clear HKX SK
  have S2 := Lib.hid S1.out.drew; clear S1
  go_region_held3 (fun w' => w'.cell? ⟨ob, 0, none⟩ = some (.int .i64 k) ∧ w'.cell? ⟨ob, 1, none⟩ = some (.int .u8 (c : Int)) ∧ w'.cell? ⟨ob, 2, none⟩ = some (.slice A1 n1 c1) ∧ w'.cell? ⟨ob, 3, none⟩ = some (.slice A2 n2 c2) ∧ w'.cell? ⟨ob, 4, none⟩ = some (.slice A3 n3 c3) ∧ w'.cell? ⟨ob, 5, none⟩ = some (.slice A4 n4 c4) ∧ w'.cell? ⟨ob, 6, none⟩ = some (.slice A5 n5 c5) ∧ w'.cell? ⟨ob, 7, none⟩ = some (.slice A6 n6 c6) ∧ w'.cell? ⟨ob, 8, none⟩ = some (.int .i64 f) ∧ w'.cell? ⟨ob, 9, none⟩ = some (.int .i64 t)) (first | exact HC.out _ _ S2.out (by intro e he; simp [he]) | exact HC.out _ _ S3.out (by intro e he; simp [he]) | exact HC.out _ _ S4.out (by intro e he; simp [he]) | exact HC.out _ _ S5.out (by intro e he; simp [he]) | exact HC.out _ _ S6.out (by intro e he; simp [he]) | exact HC.out _ _ S7.out (by intro e he; simp [he]) | exact HC.out _ _ S8.out (by intro e he; simp [he]) | exact HC.out _ _ S9.out (by intro e he; simp [he]) | exact HC.out _ _ S10.out (by intro e he; simp [he]) | go_keep) (first
    | (go_at_call 13; (with_reducible refine (copies_st L2.out F2.out (S2.out.extL R2.out)).mono ?_); rintro e w3 ⟨AR, cR, bsR, GR, rfl, hc, hh⟩; have K3 := Lib.hid hh; have C3 := Lib.hid hc; clear hc; have h3 := S2.out.call hh; clear hh; (try simp only [List.nil_append, List.cons_append, List.append_eq, Int.toNat_natCast] at h3); have S3 := Lib.hid h3; clear h3)
    | (go_at_call 13; (with_reducible refine (copies_st L3.out F3.out (S3.out.extL R3.out)).mono ?_); rintro e w4 ⟨AS, cS, bsS, GS, rfl, hc, hh⟩; have K4 := Lib.hid hh; have C4 := Lib.hid hc; clear hc; have h4 := S3.out.call hh; clear hh S3; (try simp only [List.nil_append, List.cons_append, List.append_eq, Int.toNat_natCast] at h4); have S4 := Lib.hid h4; clear h4)
    | (go_at_call 13; (with_reducible refine (copies_st L4.out F4.out (S4.out.extL R4.out)).mono ?_); rintro e w5 ⟨AT, cT, bsT, GT, rfl, hc, hh⟩; have K5 := Lib.hid hh; have C5 := Lib.hid hc; clear hc; have h5 := S4.out.call hh; clear hh S4; (try simp only [List.nil_append, List.cons_append, List.append_eq, Int.toNat_natCast] at h5); have S5 := Lib.hid h5; clear h5))
  have S6 : Hid (St w0 w5 [] (tX GR bsR rows GS bsS srcs GT bsT dsts KX)) := Lib.hid (by simpa only [tX, List.append_assoc] using S5.out)
  have CR := C3; have CS := C4; have CT := C5
  clear S2 S5 K3 K4 K5 C3 C4 C5
  go_wp2_with fail
  have S7 := Lib.hid S6.out.drew; clear S6
  go_region_held3 (fun w' => w'.cell? ⟨ob, 0, none⟩ = some (.int .i64 k) ∧ w'.cell? ⟨ob, 1, none⟩ = some (.int .u8 (c : Int)) ∧ w'.cell? ⟨ob, 2, none⟩ = some (.slice A1 n1 c1) ∧ w'.cell? ⟨ob, 3, none⟩ = some (.slice A2 n2 c2) ∧ w'.cell? ⟨ob, 4, none⟩ = some (.slice A3 n3 c3) ∧ w'.cell? ⟨ob, 5, none⟩ = some (.slice A4 n4 c4) ∧ w'.cell? ⟨ob, 6, none⟩ = some (.slice A5 n5 c5) ∧ w'.cell? ⟨ob, 7, none⟩ = some (.slice A6 n6 c6) ∧ w'.cell? ⟨ob, 8, none⟩ = some (.int .i64 f) ∧ w'.cell? ⟨ob, 9, none⟩ = some (.int .i64 t)) (first | exact HC.out _ _ S7.out (by intro e he; simp [he]) | exact HC.out _ _ S8.out (by intro e he; simp [he]) | exact HC.out _ _ S9.out (by intro e he; simp [he]) | exact HC.out _ _ S10.out (by intro e he; simp [he]) | exact HC.out _ _ S11.out (by intro e he; simp [he]) | exact HC.out _ _ S12.out (by intro e he; simp [he]) | exact HC.out _ _ S13.out (by intro e he; simp [he]) | exact HC.out _ _ S14.out (by intro e he; simp [he]) | exact HC.out _ _ S15.out (by intro e he; simp [he]) | go_keep) (first
    | (go_at_call 16; (with_reducible refine (copied_st L1.out (by omega) (S7.out.ext R1.out)).mono ?_); rintro e w8 ⟨r, rfl, hh⟩; have K8 := Lib.hid hh; have h8 := S7.out.call hh; clear hh; (try simp only [List.nil_append, List.cons_append, List.append_eq, Int.toNat_natCast] at h8); have S8 := Lib.hid h8; clear h8)
    | (go_at_call 16; (with_reducible refine (copied_st L6.out (by omega) (S8.out.ext R6.out)).mono ?_); rintro e w9 ⟨b, rfl, hh⟩; have K9 := Lib.hid hh; have h9 := S8.out.call hh; clear hh S8; (try simp only [List.nil_append, List.cons_append, List.append_eq, Int.toNat_natCast] at h9); have S9 := Lib.hid h9; clear h9))
  have h10 := S9.out.alloc 32 #[.int .i64 f, .int .i64 t]
  have S10 : Hid (St w0 (w9.alloc (.cells #[.int .i64 f, .int .i64 t] 32 (0, 0))) [] ([⟨w9.heap.size, 32, #[.int .i64 f, .int .i64 t]⟩, bt b src, bt r row] ++ tX GR bsR rows GS bsS srcs GT bsT dsts KX)) := Lib.hid h10
  clear h10
  obtain ⟨a0, -, -, -, -, a5, -, -, a8, a9⟩ := HC.out _ _ S9.out (fun e he => by simp [he])
  obtain ⟨z0, -, -, -, -, z5, -, -, z8, z9⟩ := HC.out _ _ S10.out (fun e he => by simp [he])
  have y0 := (S10.out.blk mem0).cell (i := 0) rfl
  have y1 := (S10.out.blk mem0).cell (i := 1) rfl
  clear K8 K9 S7 S9
  by_cases k5 : k = 5
  · subst k5
    go_wp2_with fail
    clear a0 a5 a8 a9 z0 z5 z8 z9 y0 y1
    obtain ⟨PR, HPR⟩ : ∃ X, Hid (([⟨w9.heap.size, 32, #[.int .i64 f, .int .i64 t]⟩, bt b src, bt r row] : List Ent) = X) := ⟨_, Lib.hid rfl⟩
    rw [HPR.out] at S10
    have HPb : Hid (bt b src ∈ PR) := Lib.hid (by rw [← HPR.out]; simp)
    have HPr : Hid (bt r row ∈ PR) := Lib.hid (by rw [← HPR.out]; simp)
    clear HPR
    generalize w9.heap.size = sb at *
    generalize w9.alloc (.cells #[.int .i64 f, .int .i64 t] 32 (0, 0)) = w10 at *
    refine (tn_app (Z := PR) (f := f) (t := t) SE.out S10.out SMK.out CR.out CS.out CT.out F2.out F3.out F4.out B2.out B3.out B4.out).mono ?_
    rintro e w11 ⟨rfl, hh⟩
    obtain ⟨-, -, z2, z3, z4, z5, -, z7, z8, z9⟩ := HC.out _ _ hh (fun e he => by simp [he])
    have S11 := Lib.hid hh; clear hh S10
    go_wp2_with fail
    refine (dapply_st (f := f) (t := t) L2.out L3.out L4.out F2.out F3.out F4.out B2.out B3.out B4.out (S11.out.extL R2.out) (S11.out.extL R3.out) (S11.out.extL R4.out)).mono ?_
    rintro e w12 ⟨AW, cW, TW, GW, rfl, hct, hli, hh⟩
    have h12 := S11.out.call hh; clear hh S11
    try simp only [List.nil_append, List.cons_append, List.append_eq, Int.toNat_natCast] at h12
    have HCT := Lib.hid hct; have HLI := Lib.hid hli; clear hct hli
    have S12 := Lib.hid h12; clear h12
    clear z2 z3 z4 z5 z7 z8 z9
    obtain ⟨-, -, z2, z3, z4, z5, -, z7, z8, z9⟩ := HC.out _ _ S12.out (fun e he => by simp [he])
    have WX : RdL w12 [] AW (appE rows srcs dsts f t) := by
      have := HCT.out.rd S12.out (fun e he => by simp [he]) (fun e he => by simp [he])
      rw [HLI.out] at this; exact this
    have XL : Hid ((appE rows srcs dsts f t).map (·.length) = dsts.map (·.length)) := Lib.hid (appE_len)
    have X8 : Hid (B8L (appE rows srcs dsts f t)) := Lib.hid (appE_b8 B2.out B4.out)
    have WXH := Lib.hid (WX)
    clear WX
    generalize appE rows srcs dsts f t = X at *
    have XF := Lib.hid (F4.out.len XL.out)
    have CX := Lib.hid (CopyL.len CT.out XL.out)
    have LX := Lib.hid CX.out.2.1.symm
    go_wp2_with fail
    refine (all_same LX.out XF.out X8.out (CX.out.rd0 S12.out (fun e he => by simp [he]) (fun e he => by simp [he])) WXH.out).mono ?_
    rintro e _ ⟨rfl, n13, rfl⟩
    have h13 := S12.out.drewN (n := n13); clear S12
    try simp only [World.drewN_drewN] at h13
    have S13 := Lib.hid h13; clear h13
    go_wp2_with fail
    refine (all_same L2.out F2.out B2.out (CR.out.rd0 S13.out (fun e he => by simp [he]) (fun e he => by simp [he])) (S13.out.extL R2.out)).mono ?_
    rintro e _ ⟨rfl, n14, rfl⟩
    have h14 := S13.out.drewN (n := n14); clear S13
    try simp only [World.drewN_drewN] at h14
    have S14 := Lib.hid h14; clear h14
    go_wp2_with fail
    refine (all_same L3.out F3.out B3.out (CS.out.rd0 S14.out (fun e he => by simp [he]) (fun e he => by simp [he])) (S14.out.extL R3.out)).mono ?_
    rintro e _ ⟨rfl, n15, rfl⟩
    have h15 := S14.out.drewN (n := n15); clear S14
    try simp only [World.drewN_drewN] at h15
    have S15 := Lib.hid h15; clear h15
    go_wp2_with fail
    refine (equal_same L1.out (by omega) B1.out (S15.out.rd (by simp [HPr.out] : bt r row ∈ _)) (S15.out.ext R1.out)).mono ?_
    rintro e _ ⟨rfl, n16, rfl⟩
    have h16 := S15.out.drewN (n := n16); clear S15
    try simp only [World.drewN_drewN] at h16
    have S16 := Lib.hid h16; clear h16
    go_wp2_with fail
    refine (equal_same L6.out (by omega) B6.out (S16.out.rd (by simp [HPb.out] : bt b src ∈ _)) (S16.out.ext R6.out)).mono ?_
    rintro e _ ⟨rfl, n17, rfl⟩
    have h17 := S16.out.drewN (n := n17); clear S16
    try simp only [World.drewN_drewN] at h17
    have S17 := Lib.hid h17; clear h17
    go_wp2_with fail
    go_ret
    exact ⟨rfl, by simpa only [World.drewN_drewN] using S17.out.drop (((HKS.out.trans (tX_sub _ _ _ _ _ _ _ _ _ _)).trans (List.sublist_append_right _ _)).trans (List.sublist_append_right _ _))⟩
  · have p5 : (k == 5) = false := by simpa using k5
    by_cases k6 : k = 6
    · subst k6
      clear p5 k5
      go_wp2_with fail
      clear a0 a5 a8 a9 z0 z5 z8 z9 y0 y1
      obtain ⟨PR, HPR⟩ : ∃ X, Hid (([⟨w9.heap.size, 32, #[.int .i64 f, .int .i64 t]⟩, bt b src, bt r row] : List Ent) = X) := ⟨_, Lib.hid rfl⟩
      rw [HPR.out] at S10
      have HPb : Hid (bt b src ∈ PR) := Lib.hid (by rw [← HPR.out]; simp)
      have HPr : Hid (bt r row ∈ PR) := Lib.hid (by rw [← HPR.out]; simp)
      clear HPR
      generalize w9.heap.size = sb at *
      generalize w9.alloc (.cells #[.int .i64 f, .int .i64 t] 32 (0, 0)) = w10 at *
      refine (tn_agr (f := f) (t := t) SE.out S10.out (fun e he => by simp [SMK.out e he]) CR.out CS.out CT.out (by intro e he; simp at he; rcases he with he | he <;> simp [he]) (by intro e he; simp at he; rcases he with he | he <;> simp [he]) (by intro e he; simp at he; rcases he with he | he <;> simp [he]) F2.out F3.out F4.out B2.out B3.out B4.out).mono ?_
      rintro e w11 ⟨rfl, hh⟩
      obtain ⟨-, -, z2, z3, z4, z5, -, z7, z8, z9⟩ := HC.out _ _ hh (fun e he => by simp [he])
      have S11 := Lib.hid hh; clear hh S10
      go_wp2_with fail
      refine (dagrees_st (f := f) (t := t) L2.out L3.out L4.out F2.out F3.out F4.out B2.out B3.out B4.out (S11.out.extL R2.out) (S11.out.extL R3.out) (S11.out.extL R4.out)).mono ?_
      rintro e _ ⟨rfl, n12, rfl⟩
      have h12 := S11.out.drewN (n := n12); clear S11
      have S12 := Lib.hid h12; clear h12
      generalize agrE rows srcs dsts f t = yes at *
      have XL : Hid ((dsts).map (·.length) = dsts.map (·.length)) := Lib.hid (rfl)
      have X8 : Hid (B8L (dsts)) := Lib.hid (B4.out)
      have WXH := Lib.hid (S12.out.extL R4.out)
      have XF := Lib.hid (F4.out.len XL.out)
      have CX := Lib.hid (CopyL.len CT.out XL.out)
      have LX := Lib.hid CX.out.2.1.symm
      go_wp2_with fail
      refine (all_same LX.out XF.out X8.out (CX.out.rd0 S12.out (fun e he => by simp [he]) (fun e he => by simp [he])) WXH.out).mono ?_
      rintro e _ ⟨rfl, n13, rfl⟩
      have h13 := S12.out.drewN (n := n13); clear S12
      try simp only [World.drewN_drewN] at h13
      have S13 := Lib.hid h13; clear h13
      go_wp2_with fail
      refine (all_same L2.out F2.out B2.out (CR.out.rd0 S13.out (fun e he => by simp [he]) (fun e he => by simp [he])) (S13.out.extL R2.out)).mono ?_
      rintro e _ ⟨rfl, n14, rfl⟩
      have h14 := S13.out.drewN (n := n14); clear S13
      try simp only [World.drewN_drewN] at h14
      have S14 := Lib.hid h14; clear h14
      go_wp2_with fail
      refine (all_same L3.out F3.out B3.out (CS.out.rd0 S14.out (fun e he => by simp [he]) (fun e he => by simp [he])) (S14.out.extL R3.out)).mono ?_
      rintro e _ ⟨rfl, n15, rfl⟩
      have h15 := S14.out.drewN (n := n15); clear S14
      try simp only [World.drewN_drewN] at h15
      have S15 := Lib.hid h15; clear h15
      go_wp2_with fail
      refine (equal_same L1.out (by omega) B1.out (S15.out.rd (by simp [HPr.out] : bt r row ∈ _)) (S15.out.ext R1.out)).mono ?_
      rintro e _ ⟨rfl, n16, rfl⟩
      have h16 := S15.out.drewN (n := n16); clear S15
      try simp only [World.drewN_drewN] at h16
      have S16 := Lib.hid h16; clear h16
      go_wp2_with fail
      refine (equal_same L6.out (by omega) B6.out (S16.out.rd (by simp [HPb.out] : bt b src ∈ _)) (S16.out.ext R6.out)).mono ?_
      rintro e _ ⟨rfl, n17, rfl⟩
      have h17 := S16.out.drewN (n := n17); clear S16
      try simp only [World.drewN_drewN] at h17
      have S17 := Lib.hid h17; clear h17
      go_wp2_with fail
      go_ret
      exact ⟨rfl, by simpa only [World.drewN_drewN] using S17.out.drop (((HKS.out.trans (tX_sub _ _ _ _ _ _ _ _ _ _)).trans (List.sublist_append_right _ _)))⟩
    · have p6 : (k == 6) = false := by simpa using k6
      by_cases k7 : k = 7
      · subst k7
        clear p5 k5 p6 k6
        go_wp2_with fail
        clear a0 a5 a8 a9 z0 z5 z8 z9 y0 y1
        obtain ⟨PR, HPR⟩ : ∃ X, Hid (([⟨w9.heap.size, 32, #[.int .i64 f, .int .i64 t]⟩, bt b src, bt r row] : List Ent) = X) := ⟨_, Lib.hid rfl⟩
        rw [HPR.out] at S10
        have HPb : Hid (bt b src ∈ PR) := Lib.hid (by rw [← HPR.out]; simp)
        have HPr : Hid (bt r row ∈ PR) := Lib.hid (by rw [← HPR.out]; simp)
        clear HPR
        generalize w9.heap.size = sb at *
        generalize w9.alloc (.cells #[.int .i64 f, .int .i64 t] 32 (0, 0)) = w10 at *
        refine (sprH (PR := PR) (f := f) (t := t) SE.out S10.out (fun e he => by simp [SMK.out e he]) HPr.out HPb.out CT.out L1.out L6.out F4.out U6.out B1.out B6.out B4.out).mono ?_
        rintro e w11 ⟨rfl, hh⟩
        obtain ⟨-, -, z2, z3, z4, z5, -, z7, z8, z9⟩ := HC.out _ _ hh (fun e he => by simp [he])
        have S11 := Lib.hid hh; clear hh S10
        go_wp2_with fail
        refine (dspread_st (f := f) (t := t) L1.out L6.out L4.out U6.out F4.out B1.out B6.out B4.out (S11.out.ext R1.out) (S11.out.ext R6.out) (S11.out.extL R4.out)).mono ?_
        rintro e w12 ⟨AW, cW, TW, GW, rfl, hct, hli, hh⟩
        have h12 := S11.out.call hh; clear hh S11
        try simp only [List.nil_append, List.cons_append, List.append_eq, Int.toNat_natCast] at h12
        have HCT := Lib.hid hct; have HLI := Lib.hid hli; clear hct hli
        have S12 := Lib.hid h12; clear h12
        clear z2 z3 z4 z5 z7 z8 z9
        obtain ⟨-, -, z2, z3, z4, z5, -, z7, z8, z9⟩ := HC.out _ _ S12.out (fun e he => by simp [he])
        have WX : RdL w12 [] AW (sprD row src dsts f t) := by
          have := HCT.out.rd S12.out (fun e he => by simp [he]) (fun e he => by simp [he])
          rw [HLI.out] at this; exact this
        have XL : Hid ((sprD row src dsts f t).map (·.length) = dsts.map (·.length)) := Lib.hid (sprD_len)
        have X8 : Hid (B8L (sprD row src dsts f t)) := Lib.hid (sprD_b8 B1.out B4.out)
        have WXH := Lib.hid (WX)
        clear WX
        generalize sprD row src dsts f t = X at *
        have XF := Lib.hid (F4.out.len XL.out)
        have CX := Lib.hid (CopyL.len CT.out XL.out)
        have LX := Lib.hid CX.out.2.1.symm
        go_wp2_with fail
        refine (all_same LX.out XF.out X8.out (CX.out.rd0 S12.out (fun e he => by simp [he]) (fun e he => by simp [he])) WXH.out).mono ?_
        rintro e _ ⟨rfl, n13, rfl⟩
        have h13 := S12.out.drewN (n := n13); clear S12
        try simp only [World.drewN_drewN] at h13
        have S13 := Lib.hid h13; clear h13
        go_wp2_with fail
        refine (all_same L2.out F2.out B2.out (CR.out.rd0 S13.out (fun e he => by simp [he]) (fun e he => by simp [he])) (S13.out.extL R2.out)).mono ?_
        rintro e _ ⟨rfl, n14, rfl⟩
        have h14 := S13.out.drewN (n := n14); clear S13
        try simp only [World.drewN_drewN] at h14
        have S14 := Lib.hid h14; clear h14
        go_wp2_with fail
        refine (all_same L3.out F3.out B3.out (CS.out.rd0 S14.out (fun e he => by simp [he]) (fun e he => by simp [he])) (S14.out.extL R3.out)).mono ?_
        rintro e _ ⟨rfl, n15, rfl⟩
        have h15 := S14.out.drewN (n := n15); clear S14
        try simp only [World.drewN_drewN] at h15
        have S15 := Lib.hid h15; clear h15
        go_wp2_with fail
        refine (equal_same L1.out (by omega) B1.out (S15.out.rd (by simp [HPr.out] : bt r row ∈ _)) (S15.out.ext R1.out)).mono ?_
        rintro e _ ⟨rfl, n16, rfl⟩
        have h16 := S15.out.drewN (n := n16); clear S15
        try simp only [World.drewN_drewN] at h16
        have S16 := Lib.hid h16; clear h16
        go_wp2_with fail
        refine (equal_same L6.out (by omega) B6.out (S16.out.rd (by simp [HPb.out] : bt b src ∈ _)) (S16.out.ext R6.out)).mono ?_
        rintro e _ ⟨rfl, n17, rfl⟩
        have h17 := S16.out.drewN (n := n17); clear S16
        try simp only [World.drewN_drewN] at h17
        have S17 := Lib.hid h17; clear h17
        go_wp2_with fail
        go_ret
        exact ⟨rfl, by simpa only [World.drewN_drewN] using S17.out.drop (((HKS.out.trans (tX_sub _ _ _ _ _ _ _ _ _ _)).trans (List.sublist_append_right _ _)).trans (List.sublist_append_right _ _))⟩
      · have p7 : (k == 7) = false := by simpa using k7
        clear k5 k6 k7
        go_wp2_with fail
        go_ret
        exact ⟨rfl, S10.out.drop ((HKS.out.trans (tX_sub _ _ _ _ _ _ _ _ _ _)).trans (List.sublist_append_right _ _))⟩

end Go.Proofs.Ytdbfkjhdnbmpeaa.Sk

namespace Go.Proofs.Ytdbfkjhdnbmpeaa.Sk
set_option linter.unusedSimpArgs false
set_option linter.unusedVariables false
open Go Go.RowKit Go.Proofs.Ytdbfkjhdnbmpeaa Go.Proofs.Ytdbfkjhdnbmpeaa.Mm Go.Proofs.Ytdbfkjhdnbmpeaa.Gf Go.Proofs.Ytdbfkjhdnbmpeaa.Wr Go.Proofs.Ytdbfkjhdnbmpeaa.Nb Go.Proofs.Ytdbfkjhdnbmpeaa.St

theorem opens_calls : Kk.Opens Try.prog 69 (Kk.kSlice kCall 176) :=
  Kk.opens_slice Try.underlying69 (by kernel_rfl) (by decide) (by kernel_rfl) opens_call

set_option maxRecDepth 100000 in
set_option maxHeartbeats 8000000 in
theorem calls_st {A : Option Addr} {n cp : Nat} {xs : List TCall} {w : World} (hn : xs.length = n) (hl : n ≤ 140737488351232) (hx : Kk.Row kCall w.heap.size w A xs) :
    Calls Try.prog 9 #[.slice A n cp] w fun e w' => e = .returned (.bool true) ∧ St w w' [] [] := by
  have HX := Lib.hid hx; have HN := Lib.hid hn
  clear hx hn
  have S0 := Lib.hid (St.start w)
  go_enter Try.func9, Try.ntmps9
  go_wp2_with fail
  refine (fixed_st _).mono ?_
  rintro e w1 ⟨rfl, hh⟩
  have h1 := S0.out.call hh; clear hh S0
  try simp only [List.nil_append, List.cons_append, List.append_eq, Int.toNat_natCast] at h1
  have S1 := Lib.hid h1; clear h1
  go_wp2_with fail
  refine (sets3_st _).mono ?_
  rintro e w2 ⟨lb, cl, K1, rfl, hq3, hh⟩
  have h2 := S1.out.call hh; clear hh S1
  try simp only [List.nil_append, List.cons_append, List.append_eq, Int.toNat_natCast] at h2
  have H31 := Lib.hid hq3; clear hq3
  have S2 := Lib.hid h2; clear h2
  have S3 : Hid (St w w2 [] K1) := Lib.hid (by simpa only [List.append_nil] using S2.out)
  clear S2
  go_wp2_with fail
  go_loopw [14] (fun vi wq => ∃ i : Nat, i ≤ n ∧ vi = .int .i64 i ∧ St w wq [] K1) (fun vi _ => n - (intOf vi).toNat)
  case atStart => exact ⟨0, by omega, rfl, S3.out⟩
  case round =>
    clear S3
    obtain ⟨i, hi, rfl, hs⟩ := hrel
    have S4 := Lib.hid hs; clear hs
    by_cases hlt : i < n
    · obtain ⟨bk, off, eA, hbk, hat⟩ := HX.out (by rw [HN.out]; omega)
      obtain ⟨cs, hok, hcell⟩ := hat i (by rw [HN.out]; exact hlt)
      obtain ⟨k, c, row, dst, src, rows, srcs, dsts, f, t, A1, A2, A3, A4, A5, A6, c1, c2, c3, c4, c5, c6, ecs, ex, hc, ⟨g1, g2, g3⟩, ⟨g4, g5, g6⟩, ⟨g7, g8, g9⟩, ⟨g10, g11, g12⟩, ⟨g13, g14, g15⟩, ⟨g16, g17, g18⟩, -⟩ := open_call hok
      subst ecs eA
      clear ex hok hat
      have R1 := Lib.hid g2; have R2 := Lib.hid g4; have R3 := Lib.hid g7; have R4 := Lib.hid g10; have R5 := Lib.hid g14; have R6 := Lib.hid g17; have F2 := Lib.hid g5; have F3 := Lib.hid g8; have F4 := Lib.hid g11; have B1 := Lib.hid g3; have B2 := Lib.hid g6; have B3 := Lib.hid g9; have B4 := Lib.hid g12; have B5 := Lib.hid g15; have B6 := Lib.hid g18
      clear g2 g3 g4 g5 g6 g7 g8 g9 g10 g11 g12 g14 g15 g17 g18
      obtain ⟨n1, L1⟩ : ∃ m, Hid (row.length = m) := ⟨_, Lib.hid rfl⟩
      obtain ⟨n2, L2⟩ : ∃ m, Hid (rows.length = m) := ⟨_, Lib.hid rfl⟩
      obtain ⟨n3, L3⟩ : ∃ m, Hid (srcs.length = m) := ⟨_, Lib.hid rfl⟩
      obtain ⟨n4, L4⟩ : ∃ m, Hid (dsts.length = m) := ⟨_, Lib.hid rfl⟩
      obtain ⟨n5, L5⟩ : ∃ m, Hid (dst.length = m) := ⟨_, Lib.hid rfl⟩
      obtain ⟨n6, L6⟩ : ∃ m, Hid (src.length = m) := ⟨_, Lib.hid rfl⟩
      rw [L1.out, L2.out, L3.out, L4.out, L5.out, L6.out] at hcell
      rw [L1.out] at g1; rw [L5.out] at g13; rw [L6.out] at g16
      have U1 := Lib.hid g1; have U5 := Lib.hid g13; have U6 := Lib.hid g16; clear g1 g13 g16
      have m : ∀ j v, (callC k c A1 A2 A3 A4 A5 A6 n1 n2 n3 n4 n5 n6 c1 c2 c3 c4 c5 c6 f t).toList[j]? = some v → w.cell? ⟨bk, off + (i * 10 + j), none⟩ = some v := hcell
      have m0 := m 0 _ rfl; have m1 := m 1 _ rfl; have m2 := m 2 _ rfl; have m3 := m 3 _ rfl; have m4 := m 4 _ rfl; have m5 := m 5 _ rfl; have m6 := m 6 _ rfl; have m7 := m 7 _ rfl; have m8 := m 8 _ rfl; have m9 := m 9 _ rfl
      clear m hcell
      rw [← S4.out.rules.1 bk _ hbk] at m0 m1 m2 m3 m4 m5 m6 m7 m8 m9
      rw [← Nat.add_assoc] at m1 m2 m3 m4 m5 m6 m7 m8 m9
      rw [Nat.add_zero] at m0
      have i0 : (0 : Int) ≤ (i : Int) := by omega
      have i1 : (i : Int) < (n : Int) := by omega
      obtain ⟨jm, HJ⟩ : ∃ j : Nat, Hid (i % 3 = j) := ⟨_, Lib.hid rfl⟩
      have hj3 : jm < 3 := by rw [← HJ.out]; exact Nat.mod_lt _ (by decide)
      obtain ⟨p, S, hSE, hSM, hcell⟩ := H31.out jm hj3
      have SE := Lib.hid hSE; have SM := Lib.hid hSM
      go_wp2_with fail
      clear m0 m1 m2 m3 m4 m5 m6 m7 m8 m9 hSE hSM
      have h5 := S4.out.alloc 42 (callC k c A1 A2 A3 A4 A5 A6 n1 n2 n3 n4 n5 n6 c1 c2 c3 c4 c5 c6 f t)
      have S5 := Lib.hid h5; clear h5
      generalize wr.heap.size = ob at *
      generalize wr.alloc (.cells (callC k c A1 A2 A3 A4 A5 A6 n1 n2 n3 n4 n5 n6 c1 c2 c3 c4 c5 c6 f t) 42 (0, 0)) = w5 at *
      have SM2 : Hid (∀ e ∈ S, e ∈ (⟨ob, 42, callC k c A1 A2 A3 A4 A5 A6 n1 n2 n3 n4 n5 n6 c1 c2 c3 c4 c5 c6 f t⟩ : Ent) :: K1) := Lib.hid (fun e he => List.mem_cons_of_mem _ (SM.out e he))
      have HC : Hid (∀ (w' : World) (N' : List Ent), St w w' [] N' → (∀ e ∈ (⟨ob, 42, callC k c A1 A2 A3 A4 A5 A6 n1 n2 n3 n4 n5 n6 c1 c2 c3 c4 c5 c6 f t⟩ : Ent) :: K1, e ∈ N') → w'.cell? ⟨lb, jm, none⟩ = some (.pointer (some ⟨p, 0, none⟩)) ∧ w'.cell? ⟨ob, 0, none⟩ = some (.int .i64 k) ∧ w'.cell? ⟨ob, 1, none⟩ = some (.int .u8 (c : Int)) ∧ w'.cell? ⟨ob, 2, none⟩ = some (.slice A1 n1 c1) ∧ w'.cell? ⟨ob, 3, none⟩ = some (.slice A2 n2 c2) ∧ w'.cell? ⟨ob, 4, none⟩ = some (.slice A3 n3 c3) ∧ w'.cell? ⟨ob, 5, none⟩ = some (.slice A4 n4 c4) ∧ w'.cell? ⟨ob, 6, none⟩ = some (.slice A5 n5 c5) ∧ w'.cell? ⟨ob, 7, none⟩ = some (.slice A6 n6 c6) ∧ w'.cell? ⟨ob, 8, none⟩ = some (.int .i64 f) ∧ w'.cell? ⟨ob, 9, none⟩ = some (.int .i64 t)) := Lib.hid (fun w' N' hs hm => ⟨hcell _ _ _ hs (fun e he => hm e (List.mem_cons_of_mem _ he)), call_cells hs (hm _ mem0)⟩)
      have HSUB : Hid (K1.Sublist ((⟨ob, 42, callC k c A1 A2 A3 A4 A5 A6 n1 n2 n3 n4 n5 n6 c1 c2 c3 c4 c5 c6 f t⟩ : Ent) :: K1)) := Lib.hid (List.sublist_cons_self _ _)
      obtain ⟨KX, HKX⟩ : ∃ KX, Hid ((⟨ob, 42, callC k c A1 A2 A3 A4 A5 A6 n1 n2 n3 n4 n5 n6 c1 c2 c3 c4 c5 c6 f t⟩ : Ent) :: K1 = KX) := ⟨_, Lib.hid rfl⟩
      rw [HKX.out] at S5 SM2 HC HSUB
      clear HKX hcell SM
      have e3 : Int.tmod (i : Int) 3 = (jm : Int) := by rw [Int.tmod_eq_emod_of_nonneg i0, ← HJ.out]; omega
      have e4 : (i : Int) % 3 = (jm : Int) := by rw [← HJ.out]; omega
      have r1 : (jm : Int) < 3 := by omega
      have r0 : (0 : Int) ≤ (jm : Int) := by omega
      have S6 := Lib.hid S5.out.drew; clear S5
      go_region_held3 (fun w' => w'.cell? ⟨lb, jm, none⟩ = some (.pointer (some ⟨p, 0, none⟩)) ∧ w'.cell? ⟨ob, 0, none⟩ = some (.int .i64 k) ∧ w'.cell? ⟨ob, 1, none⟩ = some (.int .u8 (c : Int)) ∧ w'.cell? ⟨ob, 2, none⟩ = some (.slice A1 n1 c1) ∧ w'.cell? ⟨ob, 3, none⟩ = some (.slice A2 n2 c2) ∧ w'.cell? ⟨ob, 4, none⟩ = some (.slice A3 n3 c3) ∧ w'.cell? ⟨ob, 5, none⟩ = some (.slice A4 n4 c4) ∧ w'.cell? ⟨ob, 6, none⟩ = some (.slice A5 n5 c5) ∧ w'.cell? ⟨ob, 7, none⟩ = some (.slice A6 n6 c6) ∧ w'.cell? ⟨ob, 8, none⟩ = some (.int .i64 f) ∧ w'.cell? ⟨ob, 9, none⟩ = some (.int .i64 t)) (first | exact HC.out _ _ S6.out (fun e he => he) | exact HC.out _ _ S7.out (fun e he => he) | exact HC.out _ _ S8.out (fun e he => he) | exact HC.out _ _ S9.out (fun e he => he) | exact HC.out _ _ S10.out (fun e he => he) | exact HC.out _ _ S11.out (fun e he => he) | exact HC.out _ _ S12.out (fun e he => he) | exact HC.out _ _ S13.out (fun e he => he) | exact HC.out _ _ S14.out (fun e he => he) | go_keep) (first
        | (go_at_call 31; (with_reducible refine (short_st SE.out S6.out SM2.out L1.out L2.out L3.out L4.out L5.out L6.out U1.out U5.out U6.out hc R1.out R2.out R3.out R4.out R5.out R6.out F2.out F3.out F4.out B1.out B2.out B3.out B4.out B5.out B6.out).mono ?_); rintro e w7 ⟨rfl, hh⟩; have S7 := Lib.hid hh; clear hh S6)
        | (go_at_call 32; (with_reducible refine (long_st SE.out S7.out SM2.out L1.out L2.out L3.out L4.out L5.out L6.out U1.out U5.out U6.out hc R1.out R2.out R3.out R4.out R5.out R6.out F2.out F3.out F4.out B1.out B2.out B3.out B4.out B5.out B6.out).mono ?_); rintro e w8 ⟨rfl, h8⟩; (try simp only [World.size_alloc, List.nil_append, List.cons_append, List.append_eq] at h8); have S8 := Lib.hid h8; clear h8 S7))
      clear e3 e4 r1 r0 hj3
      go_wp2_with fail
      refine ⟨⟨i + 1, by omega, by simp, S8.out.drop HSUB.out⟩, ?_⟩
      simp [intOf]; omega
    · have ein : i = n := by omega
      have d0 : decide ((i : Int) < (n : Int)) = false := by simp; omega
      have d0' : decide (i < n) = false := by simp; omega
      go_wp2_with fail
      go_ret
      exact ⟨rfl, S4.out.nil⟩

theorem calls_walk (A : Option Addr) (n cp : Nat) (xs : List TCall) (w : World) (h : (Kk.kSlice kCall 176).ok w.heap.size w [.slice A n cp] xs) :
    Calls Try.prog 9 #[.slice A n cp] w fun e w' => e = .returned (.bool true) ∧ Below w.heap.size w w' := by
  obtain ⟨A', c', he, _, hm, hr, hrow⟩ := h
  injection he with he _
  injection he with e1 e2 e3
  subst e1 e2 e3
  exact (calls_st rfl (by unfold reachBytes at hr; omega) hrow).mono fun _ _ ⟨h, hs⟩ => ⟨h, hs.below⟩

end Go.Proofs.Ytdbfkjhdnbmpeaa.Sk
