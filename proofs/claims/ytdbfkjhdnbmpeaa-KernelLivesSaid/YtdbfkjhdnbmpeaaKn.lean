/- Layer 9: the law KernelNew (printed by gen/mk_kn.py). -/
import Derived.Test.YtdbfkjhdnbmpeaaKw
import Derived.Test.YtdbfkjhdnbmpeaaKx
namespace Go.Proofs.Ytdbfkjhdnbmpeaa.Sk
set_option linter.unusedSimpArgs false
set_option linter.unusedVariables false
open Go Go.RowKit Go.Proofs.Ytdbfkjhdnbmpeaa Go.Proofs.Ytdbfkjhdnbmpeaa.Mm Go.Proofs.Ytdbfkjhdnbmpeaa.Gf Go.Proofs.Ytdbfkjhdnbmpeaa.Wr Go.Proofs.Ytdbfkjhdnbmpeaa.Nb Go.Proofs.Ytdbfkjhdnbmpeaa.St

/-- The cells of a Call. -/
abbrev callC (k : Int) (c : Nat) (A1 A2 A3 A4 A5 A6 : Option Addr) (n1 n2 n3 n4 n5 n6 c1 c2 c3 c4 c5 c6 : Nat) (f t : Int) : Array Value := #[.int .i64 k, .int .u8 (c : Int), .slice A1 n1 c1, .slice A2 n2 c2, .slice A3 n3 c3, .slice A4 n4 c4, .slice A5 n5 c5, .slice A6 n6 c6, .int .i64 f, .int .i64 t]
theorem call_cells {w0 w : World} {N : List Ent} {ob : Nat} {k : Int} {c : Nat} {A1 A2 A3 A4 A5 A6 : Option Addr} {n1 n2 n3 n4 n5 n6 c1 c2 c3 c4 c5 c6 : Nat} {f t : Int} (hs : St w0 w [] N) (hm : (⟨ob, 42, callC k c A1 A2 A3 A4 A5 A6 n1 n2 n3 n4 n5 n6 c1 c2 c3 c4 c5 c6 f t⟩ : Ent) ∈ N) :
    w.cell? ⟨ob, 0, none⟩ = some (.int .i64 k) ∧ w.cell? ⟨ob, 1, none⟩ = some (.int .u8 (c : Int)) ∧ w.cell? ⟨ob, 2, none⟩ = some (.slice A1 n1 c1) ∧ w.cell? ⟨ob, 3, none⟩ = some (.slice A2 n2 c2) ∧ w.cell? ⟨ob, 4, none⟩ = some (.slice A3 n3 c3) ∧ w.cell? ⟨ob, 5, none⟩ = some (.slice A4 n4 c4) ∧ w.cell? ⟨ob, 6, none⟩ = some (.slice A5 n5 c5) ∧ w.cell? ⟨ob, 7, none⟩ = some (.slice A6 n6 c6) ∧ w.cell? ⟨ob, 8, none⟩ = some (.int .i64 f) ∧ w.cell? ⟨ob, 9, none⟩ = some (.int .i64 t) :=
  ⟨(hs.blk hm).cell (i := 0) rfl, (hs.blk hm).cell (i := 1) rfl, (hs.blk hm).cell (i := 2) rfl, (hs.blk hm).cell (i := 3) rfl, (hs.blk hm).cell (i := 4) rfl, (hs.blk hm).cell (i := 5) rfl, (hs.blk hm).cell (i := 6) rfl, (hs.blk hm).cell (i := 7) rfl, (hs.blk hm).cell (i := 8) rfl, (hs.blk hm).cell (i := 9) rfl⟩

theorem nil1 {F : FuncId} {vs : Array Value} {v : Value} {w0 w wA : World} {M X : List Ent} (h : St w0 w [] M) (k1 : St w wA [] X) (hc : Calls Try.prog F vs wA fun e w' => e = .returned v ∧ St wA w' [] []) :
    Calls Try.prog F vs wA fun e w' => e = .returned v ∧ St w0 w' [] M :=
  hc.mono fun _ _ ⟨he, hw⟩ => ⟨he, (h.call k1).done0 hw⟩
theorem nil2 {F : FuncId} {vs : Array Value} {v : Value} {w0 w wA wB : World} {M X Y : List Ent} (h : St w0 w [] M) (k1 : St w wA [] X) (k2 : St wA wB [] Y) (hc : Calls Try.prog F vs wB fun e w' => e = .returned v ∧ St wB w' [] []) :
    Calls Try.prog F vs wB fun e w' => e = .returned v ∧ St w0 w' [] M :=
  hc.mono fun _ _ ⟨he, hw⟩ => ⟨he, ((((h.call k1).call k2).done0 hw).drop (List.sublist_append_right _ _))⟩
theorem still {F : FuncId} {vs : Array Value} {v : Value} {w : World} (hc : Calls Try.prog F vs w fun e w' => e = .returned v ∧ w = w') : Calls Try.prog F vs w fun e w' => e = .returned v ∧ St w w' [] [] :=
  hc.mono fun _ _ ⟨he, hw⟩ => ⟨he, hw ▸ St.start w⟩

set_option maxRecDepth 100000 in
set_option maxHeartbeats 8000000 in
theorem nothing_st {w0 : World} {k : Int} {c : Nat} {A1 A2 A3 A4 A5 A6 : Option Addr} {n1 n2 n3 n4 n5 n6 c1 c2 c3 c4 c5 c6 : Nat} {f t : Int} {row dst src : List Nat} {rows srcs dsts : List (List Nat)} (l1 : row.length = n1) (l2 : rows.length = n2) (l3 : srcs.length = n3) (l4 : dsts.length = n4) (l5 : dst.length = n5) (l6 : src.length = n6) (u1 : n1 ≤ 140737488351232) (u5 : n5 ≤ 140737488351232) (u6 : n6 ≤ 140737488351232) (hc : c < 256) (r1 : Rd w0 A1 row) (r2 : RdL w0 [] A2 rows) (r3 : RdL w0 [] A3 srcs) (r4 : RdL w0 [] A4 dsts) (r5 : Rd w0 A5 dst) (r6 : Rd w0 A6 src) (f2 : Fit rows) (f3 : Fit srcs) (f4 : Fit dsts) (b1 : B8 row) (b2 : B8L rows) (b3 : B8L srcs) (b4 : B8L dsts) (b5 : B8 dst) (b6 : B8 src) :
    Calls Try.prog 27 #[.agg (callC k c A1 A2 A3 A4 A5 A6 n1 n2 n3 n4 n5 n6 c1 c2 c3 c4 c5 c6 f t)] w0 fun e w' => e = .returned (.bool true) ∧ St w0 w' [] [] := by
  have S0 := Lib.hid (St.start w0); have L1 := Lib.hid l1; have L2 := Lib.hid l2; have L3 := Lib.hid l3; have L4 := Lib.hid l4; have L5 := Lib.hid l5; have L6 := Lib.hid l6; have R1 := Lib.hid r1; have R2 := Lib.hid r2; have R3 := Lib.hid r3; have R4 := Lib.hid r4; have R5 := Lib.hid r5; have R6 := Lib.hid r6; have F2 := Lib.hid f2; have F3 := Lib.hid f3; have F4 := Lib.hid f4; have B4 := Lib.hid b4; have B5 := Lib.hid b5
  clear l1 l2 l3 l4 l5 l6 r1 r2 r3 r4 r5 r6 f2 f3 f4 b1 b2 b3 b4 b5 b6
  go_enter Try.func27, Try.ntmps27
  go_wp2_with ((with_reducible refine at_slot (N := 1) rfl ?_); refine box_law rfl _ _ (callC k c A1 A2 A3 A4 A5 A6 n1 n2 n3 n4 n5 n6 c1 c2 c3 c4 c5 c6 f t) rfl rfl S0.out ?_; intro ob w1 h1; have z8 := (h1.blk mem0).cell (i := 8) rfl; have z9 := (h1.blk mem0).cell (i := 9) rfl; (try simp only [World.size_alloc, List.nil_append, List.cons_append, List.append_eq] at h1); have S1 := Lib.hid h1; clear h1 S0)
  clear z8 z9
  have S7 := Lib.hid (S1.out.alloc 32 #[.int .i64 f, .int .i64 t]); clear S1
  generalize w1.heap.size = sb at *
  generalize w1.alloc (.cells #[.int .i64 f, .int .i64 t] 32 (0, 0)) = w7 at *
  have HC : Hid (∀ (w' : World) (N' : List Ent), St w0 w' [] N' → (∀ e ∈ [(⟨sb, 32, #[.int .i64 f, .int .i64 t]⟩ : Ent), ⟨ob, 42, callC k c A1 A2 A3 A4 A5 A6 n1 n2 n3 n4 n5 n6 c1 c2 c3 c4 c5 c6 f t⟩], e ∈ N') → w'.cell? ⟨ob, 1, none⟩ = some (.int .u8 (c : Int)) ∧ w'.cell? ⟨ob, 2, none⟩ = some (.slice A1 n1 c1) ∧ w'.cell? ⟨ob, 3, none⟩ = some (.slice A2 n2 c2) ∧ w'.cell? ⟨ob, 4, none⟩ = some (.slice A3 n3 c3) ∧ w'.cell? ⟨ob, 5, none⟩ = some (.slice A4 n4 c4) ∧ w'.cell? ⟨ob, 6, none⟩ = some (.slice A5 n5 c5) ∧ w'.cell? ⟨ob, 7, none⟩ = some (.slice A6 n6 c6) ∧ w'.cell? ⟨sb, 0, none⟩ = some (.int .i64 f) ∧ w'.cell? ⟨sb, 1, none⟩ = some (.int .i64 t)) := Lib.hid (fun w' N' hs hm => by
    obtain ⟨_, g1, g2, g3, g4, g5, g6, g7, _⟩ := call_cells hs (hm _ mem1)
    exact ⟨g1, g2, g3, g4, g5, g6, g7, (hs.blk (hm _ mem0)).cell (i := 0) rfl, (hs.blk (hm _ mem0)).cell (i := 1) rfl⟩)
  have HM := HC
  have S8 := Lib.hid S7.out.drew; clear S7
  go_region_held3 (fun w' => w'.cell? ⟨ob, 1, none⟩ = some (.int .u8 (c : Int)) ∧ w'.cell? ⟨ob, 2, none⟩ = some (.slice A1 n1 c1) ∧ w'.cell? ⟨ob, 3, none⟩ = some (.slice A2 n2 c2) ∧ w'.cell? ⟨ob, 4, none⟩ = some (.slice A3 n3 c3) ∧ w'.cell? ⟨ob, 5, none⟩ = some (.slice A4 n4 c4) ∧ w'.cell? ⟨ob, 6, none⟩ = some (.slice A5 n5 c5) ∧ w'.cell? ⟨ob, 7, none⟩ = some (.slice A6 n6 c6) ∧ w'.cell? ⟨sb, 0, none⟩ = some (.int .i64 f) ∧ w'.cell? ⟨sb, 1, none⟩ = some (.int .i64 t)) (first | exact HM.out _ _ S8.out (fun e he => by simp [he]) | exact HM.out _ _ S9.out (fun e he => by simp [he]) | exact HM.out _ _ S10.out (fun e he => by simp [he]) | exact HM.out _ _ S11.out (fun e he => by simp [he]) | exact HM.out _ _ S12.out (fun e he => by simp [he]) | exact HM.out _ _ S13.out (fun e he => by simp [he]) | exact HM.out _ _ S14.out (fun e he => by simp [he]) | exact HM.out _ _ S15.out (fun e he => by simp [he]) | exact HM.out _ _ S16.out (fun e he => by simp [he]) | go_keep) (first
    | (go_at_call 16; (with_reducible refine (copied_st L5.out (by omega) (S8.out.ext R5.out)).mono ?_); rintro e w9 ⟨a, rfl, hh⟩; have K9 := Lib.hid hh; have h9 := S8.out.call hh; clear hh; (try simp only [List.nil_append, List.cons_append, List.append_eq, Int.toNat_natCast] at h9); have S9 := Lib.hid h9; clear h9)
    | (go_at_call 13; (with_reducible refine (copies_st L4.out F4.out (S9.out.extL R4.out)).mono ?_); rintro e w10 ⟨AD, cD, bsD, GD, rfl, hc, hh⟩; have K10 := Lib.hid hh; have C10 := Lib.hid hc; clear hc; have h10 := S9.out.call hh; clear hh S9; (try simp only [List.nil_append, List.cons_append, List.append_eq, Int.toNat_natCast] at h10); have S10 := Lib.hid h10; clear h10))
  have SM : Hid (St w0 w10 [] (GD ++ (ents bsD dsts ++ (bt a dst :: [(⟨sb, 32, #[.int .i64 f, .int .i64 t]⟩ : Ent), ⟨ob, 42, callC k c A1 A2 A3 A4 A5 A6 n1 n2 n3 n4 n5 n6 c1 c2 c3 c4 c5 c6 f t⟩])))) := Lib.hid (by simpa only [List.append_assoc, List.cons_append, List.nil_append] using S10.out)
  clear HM
  obtain ⟨M, hM⟩ : ∃ M, Hid (GD ++ (ents bsD dsts ++ (bt a dst :: [(⟨sb, 32, #[.int .i64 f, .int .i64 t]⟩ : Ent), ⟨ob, 42, callC k c A1 A2 A3 A4 A5 A6 n1 n2 n3 n4 n5 n6 c1 c2 c3 c4 c5 c6 f t⟩])) = M) := ⟨_, Lib.hid rfl⟩
  rw [hM.out] at SM
  have HM : Hid (∀ (w' : World) (N' : List Ent), St w0 w' [] N' → (∀ e ∈ M, e ∈ N') → w'.cell? ⟨ob, 1, none⟩ = some (.int .u8 (c : Int)) ∧ w'.cell? ⟨ob, 2, none⟩ = some (.slice A1 n1 c1) ∧ w'.cell? ⟨ob, 3, none⟩ = some (.slice A2 n2 c2) ∧ w'.cell? ⟨ob, 4, none⟩ = some (.slice A3 n3 c3) ∧ w'.cell? ⟨ob, 5, none⟩ = some (.slice A4 n4 c4) ∧ w'.cell? ⟨ob, 6, none⟩ = some (.slice A5 n5 c5) ∧ w'.cell? ⟨ob, 7, none⟩ = some (.slice A6 n6 c6) ∧ w'.cell? ⟨sb, 0, none⟩ = some (.int .i64 f) ∧ w'.cell? ⟨sb, 1, none⟩ = some (.int .i64 t)) := Lib.hid (fun w' N' hs hm => HC.out w' N' hs (fun e he => hm e (by rw [← hM.out]; simp at he; rcases he with he | he <;> simp [he])))
  have RD : Hid (∀ (w' : World), St w0 w' [] M → Rd w' (some ⟨a, 0, none⟩) dst) := Lib.hid (fun w' hs => hs.rd (t := 5) (by rw [← hM.out]; simp))
  have RL : Hid (∀ (w' : World), St w0 w' [] M → RdL w' [] AD dsts) := Lib.hid (fun w' hs => C10.out.rd0 hs (fun e he => by rw [← hM.out]; simp [he]) (fun e he => by rw [← hM.out]; simp [he]))
  have HOB : Hid (⟨ob, 42, callC k c A1 A2 A3 A4 A5 A6 n1 n2 n3 n4 n5 n6 c1 c2 c3 c4 c5 c6 f t⟩ ∈ M) := Lib.hid (by rw [← hM.out]; simp)
  clear hM
  go_wp2_with fail
  have S11 := Lib.hid SM.out.drew; clear SM
  go_region_held3 (fun w' => w'.cell? ⟨ob, 1, none⟩ = some (.int .u8 (c : Int)) ∧ w'.cell? ⟨ob, 2, none⟩ = some (.slice A1 n1 c1) ∧ w'.cell? ⟨ob, 3, none⟩ = some (.slice A2 n2 c2) ∧ w'.cell? ⟨ob, 4, none⟩ = some (.slice A3 n3 c3) ∧ w'.cell? ⟨ob, 5, none⟩ = some (.slice A4 n4 c4) ∧ w'.cell? ⟨ob, 6, none⟩ = some (.slice A5 n5 c5) ∧ w'.cell? ⟨ob, 7, none⟩ = some (.slice A6 n6 c6) ∧ w'.cell? ⟨sb, 0, none⟩ = some (.int .i64 f) ∧ w'.cell? ⟨sb, 1, none⟩ = some (.int .i64 t)) (first | exact HM.out _ _ S11.out (fun e he => by simp [he]) | exact HM.out _ _ S12.out (fun e he => by simp [he]) | exact HM.out _ _ S13.out (fun e he => by simp [he]) | exact HM.out _ _ S14.out (fun e he => by simp [he]) | exact HM.out _ _ S15.out (fun e he => by simp [he]) | exact HM.out _ _ S16.out (fun e he => by simp [he]) | exact HM.out _ _ S17.out (fun e he => by simp [he]) | exact HM.out _ _ S18.out (fun e he => by simp [he]) | exact HM.out _ _ S19.out (fun e he => by simp [he]) | go_keep) (first
    | (go_at_call 16; (with_reducible refine (copied_st L6.out (by omega) (S11.out.ext R6.out)).mono ?_); rintro e w12 ⟨q, rfl, hh⟩; have K12 := Lib.hid hh; have h12 := S11.out.call hh; clear hh; (try simp only [List.nil_append, List.cons_append, List.append_eq, Int.toNat_natCast] at h12); have S12 := Lib.hid h12; clear h12)
    | (go_at_call 26; (with_reducible refine (nil1 S11.out K12.out (still (smul_nil _ _ _ _))).mono ?_); rintro e w13 ⟨rfl, hh⟩; have S13 := Lib.hid hh; clear hh K12 S11 S12))
  go_wp2_with fail
  have S14 := Lib.hid S13.out.drew; clear S13
  go_region_held3 (fun w' => w'.cell? ⟨ob, 1, none⟩ = some (.int .u8 (c : Int)) ∧ w'.cell? ⟨ob, 2, none⟩ = some (.slice A1 n1 c1) ∧ w'.cell? ⟨ob, 3, none⟩ = some (.slice A2 n2 c2) ∧ w'.cell? ⟨ob, 4, none⟩ = some (.slice A3 n3 c3) ∧ w'.cell? ⟨ob, 5, none⟩ = some (.slice A4 n4 c4) ∧ w'.cell? ⟨ob, 6, none⟩ = some (.slice A5 n5 c5) ∧ w'.cell? ⟨ob, 7, none⟩ = some (.slice A6 n6 c6) ∧ w'.cell? ⟨sb, 0, none⟩ = some (.int .i64 f) ∧ w'.cell? ⟨sb, 1, none⟩ = some (.int .i64 t)) (first | exact HM.out _ _ S14.out (fun e he => by simp [he]) | exact HM.out _ _ S15.out (fun e he => by simp [he]) | exact HM.out _ _ S16.out (fun e he => by simp [he]) | exact HM.out _ _ S17.out (fun e he => by simp [he]) | exact HM.out _ _ S18.out (fun e he => by simp [he]) | exact HM.out _ _ S19.out (fun e he => by simp [he]) | exact HM.out _ _ S20.out (fun e he => by simp [he]) | exact HM.out _ _ S21.out (fun e he => by simp [he]) | exact HM.out _ _ S22.out (fun e he => by simp [he]) | go_keep) (first
    | (go_at_call 16; (with_reducible refine (copied_st L6.out (by omega) (S14.out.ext R6.out)).mono ?_); rintro e w15 ⟨q, rfl, hh⟩; have K15 := Lib.hid hh; have h15 := S14.out.call hh; clear hh; (try simp only [List.nil_append, List.cons_append, List.append_eq, Int.toNat_natCast] at h15); have S15 := Lib.hid h15; clear h15)
    | (go_at_call 17; (with_reducible refine (nil1 S14.out K15.out (still (sadd_nil _ _ _ _))).mono ?_); rintro e w16 ⟨rfl, hh⟩; have S16 := Lib.hid hh; clear hh K15 S14 S15))
  go_wp2_with fail
  have S17 := Lib.hid S16.out.drew; clear S16
  go_region_held3 (fun w' => w'.cell? ⟨ob, 1, none⟩ = some (.int .u8 (c : Int)) ∧ w'.cell? ⟨ob, 2, none⟩ = some (.slice A1 n1 c1) ∧ w'.cell? ⟨ob, 3, none⟩ = some (.slice A2 n2 c2) ∧ w'.cell? ⟨ob, 4, none⟩ = some (.slice A3 n3 c3) ∧ w'.cell? ⟨ob, 5, none⟩ = some (.slice A4 n4 c4) ∧ w'.cell? ⟨ob, 6, none⟩ = some (.slice A5 n5 c5) ∧ w'.cell? ⟨ob, 7, none⟩ = some (.slice A6 n6 c6) ∧ w'.cell? ⟨sb, 0, none⟩ = some (.int .i64 f) ∧ w'.cell? ⟨sb, 1, none⟩ = some (.int .i64 t)) (first | exact HM.out _ _ S17.out (fun e he => by simp [he]) | exact HM.out _ _ S18.out (fun e he => by simp [he]) | exact HM.out _ _ S19.out (fun e he => by simp [he]) | exact HM.out _ _ S20.out (fun e he => by simp [he]) | exact HM.out _ _ S21.out (fun e he => by simp [he]) | exact HM.out _ _ S22.out (fun e he => by simp [he]) | exact HM.out _ _ S23.out (fun e he => by simp [he]) | exact HM.out _ _ S24.out (fun e he => by simp [he]) | exact HM.out _ _ S25.out (fun e he => by simp [he]) | go_keep) (first
    | (go_at_call 16; (with_reducible refine (copied_st L1.out (by omega) (S17.out.ext R1.out)).mono ?_); rintro e w18 ⟨r, rfl, hh⟩; have K18 := Lib.hid hh; have h18 := S17.out.call hh; clear hh; (try simp only [List.nil_append, List.cons_append, List.append_eq, Int.toNat_natCast] at h18); have S18 := Lib.hid h18; clear h18)
    | (go_at_call 13; (with_reducible refine (copies_st L3.out F3.out (S18.out.extL R3.out)).mono ?_); rintro e w19 ⟨AS, cS, bsS, GS, rfl, hc, hh⟩; have K19 := Lib.hid hh; have C19 := Lib.hid hc; clear hc; have h19 := S18.out.call hh; clear hh S18; (try simp only [List.nil_append, List.cons_append, List.append_eq, Int.toNat_natCast] at h19); have S19 := Lib.hid h19; clear h19)
    | (go_at_call 18; (with_reducible refine (nil2 S17.out K18.out K19.out (still (dot_nil _ _ _ _))).mono ?_); rintro e w20 ⟨rfl, hh⟩; have S20 := Lib.hid hh; clear hh C19 K18 K19 S17 S19))
  go_wp2_with fail
  have S21 := Lib.hid S20.out.drew; clear S20
  go_region_held3 (fun w' => w'.cell? ⟨ob, 1, none⟩ = some (.int .u8 (c : Int)) ∧ w'.cell? ⟨ob, 2, none⟩ = some (.slice A1 n1 c1) ∧ w'.cell? ⟨ob, 3, none⟩ = some (.slice A2 n2 c2) ∧ w'.cell? ⟨ob, 4, none⟩ = some (.slice A3 n3 c3) ∧ w'.cell? ⟨ob, 5, none⟩ = some (.slice A4 n4 c4) ∧ w'.cell? ⟨ob, 6, none⟩ = some (.slice A5 n5 c5) ∧ w'.cell? ⟨ob, 7, none⟩ = some (.slice A6 n6 c6) ∧ w'.cell? ⟨sb, 0, none⟩ = some (.int .i64 f) ∧ w'.cell? ⟨sb, 1, none⟩ = some (.int .i64 t)) (first | exact HM.out _ _ S21.out (fun e he => by simp [he]) | exact HM.out _ _ S22.out (fun e he => by simp [he]) | exact HM.out _ _ S23.out (fun e he => by simp [he]) | exact HM.out _ _ S24.out (fun e he => by simp [he]) | exact HM.out _ _ S25.out (fun e he => by simp [he]) | exact HM.out _ _ S26.out (fun e he => by simp [he]) | exact HM.out _ _ S27.out (fun e he => by simp [he]) | exact HM.out _ _ S28.out (fun e he => by simp [he]) | exact HM.out _ _ S29.out (fun e he => by simp [he]) | go_keep) (first
    | (go_at_call 13; (with_reducible refine (copies_st L2.out F2.out (S21.out.extL R2.out)).mono ?_); rintro e w22 ⟨AR, cR, bsR, GR, rfl, hc, hh⟩; have K22 := Lib.hid hh; have C22 := Lib.hid hc; clear hc; have h22 := S21.out.call hh; clear hh; (try simp only [List.nil_append, List.cons_append, List.append_eq, Int.toNat_natCast] at h22); have S22 := Lib.hid h22; clear h22)
    | (go_at_call 13; (with_reducible refine (copies_st L3.out F3.out (S22.out.extL R3.out)).mono ?_); rintro e w23 ⟨AS, cS, bsS, GS, rfl, hc, hh⟩; have K23 := Lib.hid hh; have C23 := Lib.hid hc; clear hc; have h23 := S22.out.call hh; clear hh S22; (try simp only [List.nil_append, List.cons_append, List.append_eq, Int.toNat_natCast] at h23); have S23 := Lib.hid h23; clear h23)
    | (go_at_call 14; (with_reducible refine (nil2 S21.out K22.out K23.out (apply_nil _ _ _ _ _ _)).mono ?_); rintro e w24 ⟨rfl, hh⟩; have S24 := Lib.hid hh; clear hh C22 C23 K22 K23 S21 S23))
  go_wp2_with fail
  have S25 := Lib.hid S24.out.drew; clear S24
  go_region_held3 (fun w' => w'.cell? ⟨ob, 1, none⟩ = some (.int .u8 (c : Int)) ∧ w'.cell? ⟨ob, 2, none⟩ = some (.slice A1 n1 c1) ∧ w'.cell? ⟨ob, 3, none⟩ = some (.slice A2 n2 c2) ∧ w'.cell? ⟨ob, 4, none⟩ = some (.slice A3 n3 c3) ∧ w'.cell? ⟨ob, 5, none⟩ = some (.slice A4 n4 c4) ∧ w'.cell? ⟨ob, 6, none⟩ = some (.slice A5 n5 c5) ∧ w'.cell? ⟨ob, 7, none⟩ = some (.slice A6 n6 c6) ∧ w'.cell? ⟨sb, 0, none⟩ = some (.int .i64 f) ∧ w'.cell? ⟨sb, 1, none⟩ = some (.int .i64 t)) (first | exact HM.out _ _ S25.out (fun e he => by simp [he]) | exact HM.out _ _ S26.out (fun e he => by simp [he]) | exact HM.out _ _ S27.out (fun e he => by simp [he]) | exact HM.out _ _ S28.out (fun e he => by simp [he]) | exact HM.out _ _ S29.out (fun e he => by simp [he]) | exact HM.out _ _ S30.out (fun e he => by simp [he]) | exact HM.out _ _ S31.out (fun e he => by simp [he]) | exact HM.out _ _ S32.out (fun e he => by simp [he]) | exact HM.out _ _ S33.out (fun e he => by simp [he]) | go_keep) (first
    | (go_at_call 13; (with_reducible refine (copies_st L2.out F2.out (S25.out.extL R2.out)).mono ?_); rintro e w26 ⟨AR, cR, bsR, GR, rfl, hc, hh⟩; have K26 := Lib.hid hh; have C26 := Lib.hid hc; clear hc; have h26 := S25.out.call hh; clear hh; (try simp only [List.nil_append, List.cons_append, List.append_eq, Int.toNat_natCast] at h26); have S26 := Lib.hid h26; clear h26)
    | (go_at_call 13; (with_reducible refine (copies_st L3.out F3.out (S26.out.extL R3.out)).mono ?_); rintro e w27 ⟨AS, cS, bsS, GS, rfl, hc, hh⟩; have K27 := Lib.hid hh; have C27 := Lib.hid hc; clear hc; have h27 := S26.out.call hh; clear hh S26; (try simp only [List.nil_append, List.cons_append, List.append_eq, Int.toNat_natCast] at h27); have S27 := Lib.hid h27; clear h27)
    | (go_at_call 15; (with_reducible refine (nil2 S25.out K26.out K27.out (agrees_nil _ _ _ _ _ _)).mono ?_); rintro e w28 ⟨rfl, hh⟩; have S28 := Lib.hid hh; clear hh C26 C27 K26 K27 S25 S27))
  go_wp2_with fail
  have S29 := Lib.hid S28.out.drew; clear S28
  go_region_held3 (fun w' => w'.cell? ⟨ob, 1, none⟩ = some (.int .u8 (c : Int)) ∧ w'.cell? ⟨ob, 2, none⟩ = some (.slice A1 n1 c1) ∧ w'.cell? ⟨ob, 3, none⟩ = some (.slice A2 n2 c2) ∧ w'.cell? ⟨ob, 4, none⟩ = some (.slice A3 n3 c3) ∧ w'.cell? ⟨ob, 5, none⟩ = some (.slice A4 n4 c4) ∧ w'.cell? ⟨ob, 6, none⟩ = some (.slice A5 n5 c5) ∧ w'.cell? ⟨ob, 7, none⟩ = some (.slice A6 n6 c6) ∧ w'.cell? ⟨sb, 0, none⟩ = some (.int .i64 f) ∧ w'.cell? ⟨sb, 1, none⟩ = some (.int .i64 t)) (first | exact HM.out _ _ S29.out (fun e he => by simp [he]) | exact HM.out _ _ S30.out (fun e he => by simp [he]) | exact HM.out _ _ S31.out (fun e he => by simp [he]) | exact HM.out _ _ S32.out (fun e he => by simp [he]) | exact HM.out _ _ S33.out (fun e he => by simp [he]) | exact HM.out _ _ S34.out (fun e he => by simp [he]) | exact HM.out _ _ S35.out (fun e he => by simp [he]) | exact HM.out _ _ S36.out (fun e he => by simp [he]) | exact HM.out _ _ S37.out (fun e he => by simp [he]) | go_keep) (first
    | (go_at_call 16; (with_reducible refine (copied_st L1.out (by omega) (S29.out.ext R1.out)).mono ?_); rintro e w30 ⟨r, rfl, hh⟩; have K30 := Lib.hid hh; have h30 := S29.out.call hh; clear hh; (try simp only [List.nil_append, List.cons_append, List.append_eq, Int.toNat_natCast] at h30); have S30 := Lib.hid h30; clear h30)
    | (go_at_call 16; (with_reducible refine (copied_st L6.out (by omega) (S30.out.ext R6.out)).mono ?_); rintro e w31 ⟨q, rfl, hh⟩; have K31 := Lib.hid hh; have h31 := S30.out.call hh; clear hh S30; (try simp only [List.nil_append, List.cons_append, List.append_eq, Int.toNat_natCast] at h31); have S31 := Lib.hid h31; clear h31)
    | (go_at_call 19; (with_reducible refine (nil2 S29.out K30.out K31.out (spread_nil _ _ _ _ _ _)).mono ?_); rintro e w32 ⟨rfl, hh⟩; have S32 := Lib.hid hh; clear hh K30 K31 S29 S31))
  obtain ⟨_, _, _, _, _, z5, z6, _, _, _⟩ := call_cells S32.out HOB.out
  go_wp2_with fail
  refine (backend_nil _).mono ?_
  rintro e _ ⟨rfl, rfl⟩
  go_wp2_with fail
  refine (equal_same L5.out (by omega) B5.out (RD.out _ S32.out) (S32.out.ext R5.out)).mono ?_
  rintro e _ ⟨rfl, n33, rfl⟩
  have h33 := S32.out.drewN (n := n33); clear S32
  have S33 := Lib.hid h33; clear h33
  go_wp2_with fail
  refine (all_same L4.out F4.out B4.out (RL.out _ S33.out) (S33.out.extL R4.out)).mono ?_
  rintro e _ ⟨rfl, n34, rfl⟩
  have h34 := S33.out.drewN (n := n34); clear S33
  have S34 := Lib.hid h34; clear h34
  go_wp2_with fail
  go_ret
  exact ⟨rfl, by simpa only [World.drewN_drewN] using S34.out.nil⟩

end Go.Proofs.Ytdbfkjhdnbmpeaa.Sk
