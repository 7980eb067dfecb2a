/- Layer 9: the law KernelNew, from what is handed in. -/
import Derived.Test.YtdbfkjhdnbmpeaaKn
namespace Go.Proofs.Ytdbfkjhdnbmpeaa.Sk
set_option linter.unusedSimpArgs false
set_option linter.unusedVariables false
open Go Go.RowKit Go.Proofs.Ytdbfkjhdnbmpeaa Go.Proofs.Ytdbfkjhdnbmpeaa.Mm Go.Proofs.Ytdbfkjhdnbmpeaa.Gf Go.Proofs.Ytdbfkjhdnbmpeaa.Wr Go.Proofs.Ytdbfkjhdnbmpeaa.Nb Go.Proofs.Ytdbfkjhdnbmpeaa.St

set_option maxRecDepth 100000 in
theorem known_yes {j : Nat} (hj : j < 3) (w : World) : Calls Try.prog 29 #[.int .i64 (j : Int)] w fun e w' => e = .returned (.bool true) ∧ w = w' := by
  rcases j with _ | _ | _ | j
  · go_enter Try.func29, Try.ntmps29
    go_wp2
    go_ret
    exact ⟨rfl, rfl⟩
  · go_enter Try.func29, Try.ntmps29
    go_wp2
    go_ret
    exact ⟨rfl, rfl⟩
  · go_enter Try.func29, Try.ntmps29
    go_wp2
    go_ret
    exact ⟨rfl, rfl⟩
  · omega
set_option maxRecDepth 100000 in
theorem known_no (b : Int) (w : World) (h0 : b ≠ 0) (h1 : b ≠ 1) (h2 : b ≠ 2) : Calls Try.prog 29 #[.int .i64 b] w fun e w' => e = .returned (.bool false) ∧ w = w' := by
  have q0 : (b == 0) = false := by simpa using h0
  have q1 : (b == 1) = false := by simpa using h1
  have q2 : (b == 2) = false := by simpa using h2
  clear h0 h1 h2
  go_enter Try.func29, Try.ntmps29
  go_wp2
  go_ret
  exact ⟨rfl, rfl⟩

set_option maxRecDepth 100000 in
set_option maxHeartbeats 4000000 in
theorem knew_calls {b : Int} {w0 : World} {k : Int} {c : Nat} {A1 A2 A3 A4 A5 A6 : Option Addr} {n1 n2 n3 n4 n5 n6 c1 c2 c3 c4 c5 c6 : Nat} {f t : Int} {row dst src : List Nat} {rows srcs dsts : List (List Nat)} (l1 : row.length = n1) (l2 : rows.length = n2) (l3 : srcs.length = n3) (l4 : dsts.length = n4) (l5 : dst.length = n5) (l6 : src.length = n6) (u1 : n1 ≤ 140737488351232) (u5 : n5 ≤ 140737488351232) (u6 : n6 ≤ 140737488351232) (hc : c < 256) (r1 : Rd w0 A1 row) (r2 : RdL w0 [] A2 rows) (r3 : RdL w0 [] A3 srcs) (r4 : RdL w0 [] A4 dsts) (r5 : Rd w0 A5 dst) (r6 : Rd w0 A6 src) (f2 : Fit rows) (f3 : Fit srcs) (f4 : Fit dsts) (b1 : B8 row) (b2 : B8L rows) (b3 : B8L srcs) (b4 : B8L dsts) (b5 : B8 dst) (b6 : B8 src) :
    Calls Try.prog 8 #[.int .i64 b, .agg (callC k c A1 A2 A3 A4 A5 A6 n1 n2 n3 n4 n5 n6 c1 c2 c3 c4 c5 c6 f t)] w0 fun e w' => e = .returned (.bool true) ∧ St w0 w' [] [] := by
  have S0 := Lib.hid (St.start w0)
  have HN : Hid (∀ (w' : World) (N' : List Ent), St w0 w' [] N' → Calls Try.prog 27 #[.agg (callC k c A1 A2 A3 A4 A5 A6 n1 n2 n3 n4 n5 n6 c1 c2 c3 c4 c5 c6 f t)] w' fun e w'' => e = .returned (.bool true) ∧ St w' w'' [] []) := Lib.hid (fun w' N' h => nothing_st l1 l2 l3 l4 l5 l6 u1 u5 u6 hc (h.ext r1) (h.extL r2) (h.extL r3) (h.extL r4) (h.ext r5) (h.ext r6) f2 f3 f4 b1 b2 b3 b4 b5 b6)
  clear l1 l2 l3 l4 l5 l6 u1 u5 u6 hc r1 r2 r3 r4 r5 r6 f2 f3 f4 b1 b2 b3 b4 b5 b6
  go_enter Try.func8, Try.ntmps8
  go_wp2_with ((with_reducible refine at_slot (N := 3) rfl ?_); refine box_law rfl _ _ (callC k c A1 A2 A3 A4 A5 A6 n1 n2 n3 n4 n5 n6 c1 c2 c3 c4 c5 c6 f t) rfl rfl S0.out ?_; intro ob w1 h1; (try simp only [World.size_alloc, List.nil_append, List.cons_append, List.append_eq] at h1); have S1 := Lib.hid h1; clear h1 S0)
  refine (fixed_st _).mono ?_
  rintro e w2 ⟨rfl, hh⟩
  have h2 := S1.out.call hh; clear hh S1
  try simp only [List.nil_append, List.cons_append, List.append_eq, Int.toNat_natCast] at h2
  have S2 := Lib.hid h2; clear h2
  obtain ⟨z0, z1, z2, z3, z4, z5, z6, z7, z8, z9⟩ := call_cells S2.out mem0
  go_wp2_with fail
  refine (HN.out _ _ S2.out).mono ?_
  rintro e w3 ⟨rfl, hh⟩
  have h3 := S2.out.call hh; clear hh S2
  try simp only [List.nil_append, List.cons_append, List.append_eq, Int.toNat_natCast] at h3
  have S3 := Lib.hid h3; clear h3
  clear HN z0 z1 z2 z3 z4 z5 z6 z7 z8 z9
  have SQ := S3; clear S3
  by_cases hk : ∃ j : Nat, j < 3 ∧ b = (j : Int)
  · obtain ⟨j, hj, rfl⟩ := hk
    go_wp2_with fail
    refine (new_set hj _).mono ?_
    rintro e w4 ⟨p, S, rfl, hs, hh⟩
    have h4 := SQ.out.call hh; clear hh SQ
    try simp only [List.nil_append, List.cons_append, List.append_eq, Int.toNat_natCast] at h4
    have SE := Lib.hid hs; clear hs
    have S4 := Lib.hid h4; clear h4
    go_wp2_with fail
    refine (known_yes hj _).mono ?_
    rintro e _ ⟨rfl, rfl⟩
    go_wp2_with fail
    refine (backend_at SE.out (There.of S4.out (fun e he => by simp [he]))).mono ?_
    rintro e _ ⟨rfl, rfl⟩
    go_wp2_with fail
    go_ret
    exact ⟨rfl, S4.out.nil⟩
  · have h0 : b ≠ 0 := fun h => hk ⟨0, by omega, h⟩
    have h1 : b ≠ 1 := fun h => hk ⟨1, by omega, h⟩
    have h2 : b ≠ 2 := fun h => hk ⟨2, by omega, h⟩
    clear hk
    go_wp2_with fail
    refine (new_none b _ h0 h1 h2).mono ?_
    rintro e _ ⟨rfl, rfl⟩
    go_wp2_with fail
    refine (known_no b _ h0 h1 h2).mono ?_
    rintro e _ ⟨rfl, rfl⟩
    go_wp2_with fail
    go_ret
    exact ⟨rfl, SQ.out.nil⟩

theorem knew_walk (b : Int) (cs : Array Value) (x : TCall) (w : World) (_hb : (Lit.int .i64 b).wf = true) (h : kCall.ok w.heap.size w cs.toList x) :
    Calls Try.prog 8 #[.int .i64 b, .agg cs] w fun e w' => e = .returned (.bool true) ∧ Below w.heap.size w w' := by
  obtain ⟨k, c, row, dst, src, rows, srcs, dsts, f, t, A1, A2, A3, A4, A5, A6, c1, c2, c3, c4, c5, c6, ecs, rfl, hc, ⟨g1, g2, g3⟩, ⟨g4, g5, g6⟩, ⟨g7, g8, g9⟩, ⟨g10, g11, g12⟩, ⟨g13, g14, g15⟩, ⟨g16, g17, g18⟩, _⟩ := open_call h
  have ec := arr_of ecs
  subst ec
  exact (knew_calls rfl rfl rfl rfl rfl rfl g1 g13 g16 hc g2 g4 g7 g10 g14 g17 g5 g8 g11 g3 g6 g9 g12 g15 g18).mono fun _ _ ⟨h, hs⟩ => ⟨h, hs.below⟩

end Go.Proofs.Ytdbfkjhdnbmpeaa.Sk
