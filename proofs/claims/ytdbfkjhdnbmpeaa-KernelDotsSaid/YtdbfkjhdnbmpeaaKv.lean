/- Layer 9: the law KernelDots. -/
import Derived.Test.YtdbfkjhdnbmpeaaKp
import Derived.Deep.DeepCutAuto
namespace Go.Proofs.Ytdbfkjhdnbmpeaa.Sk
set_option linter.unusedSimpArgs false
set_option linter.unusedVariables false
open Go Go.RowKit Go.Proofs.Ytdbfkjhdnbmpeaa Go.Proofs.Ytdbfkjhdnbmpeaa.Mm Go.Proofs.Ytdbfkjhdnbmpeaa.Gf Go.Proofs.Ytdbfkjhdnbmpeaa.Wr Go.Proofs.Ytdbfkjhdnbmpeaa.Nb Go.Proofs.Ytdbfkjhdnbmpeaa.St

section
variable {P : Program} {w0 w : World} {W N : List Ent} {ops : Array Oper} {o : Oper} {a : Act} {Q : Exit → Act → World → Prop} {K : Act → World → Prop} {E : Prop}
/-- make, as a step of a region that draws its order. -/
theorem step_make (hgd : o.guard = none) (t e : TypeId) (x : Operand) (k : IntKind) (n bytes : Nat) (ho : o.op = .makeSlice t x x) (hx : a.eval x = .int .i64 (n : Int))
    (ht : P.underlying t = some (.slice e)) (hinfo : (P.info? e).map (fun i => (i.zero, i.size, i.bytes)) = some (some (.int k 0), 1, bytes)) (hb : bytes * n ≤ 281474976710656) (hc : n ≤ 9223372036854775807) (h : St w0 w W N)
    (hK : ∀ b w', St w0 w' W (⟨b, e, row k (zs n)⟩ :: N) → K (a.put o.dst (.slice (some ⟨b, 0, none⟩) n n)) w') : if Region.wanted o (yielded ops a.tmps) = true then Oper.wp P o a w K Q else E := by
  rw [if_pos (by simp [Region.wanted, hgd])]
  unfold Oper.wp
  rw [make_zs t e x x k .i64 .i64 n n bytes ho hx hx ht hinfo (Nat.le_refl _) hb hc]
  exact hK _ _ (h.alloc e _)
end

theorem mk_zs (w : World) (q : Nat) (hq : q ≤ 281474976710656) : (Instr.makeSlice 39 (.int .i64 (q : Int)) (.int .i64 (q : Int))).run Try.prog w = .ok (.slice (some ⟨w.heap.size, 0, none⟩) q q) (w.alloc (.cells (Mm.row .u8 (zs q)) 5 (0, 0))) := by
  exact L6.mk_run (P := Try.prog) 39 5 .u8 .i64 .i64 q q 1 w Try.underlying39 info_u8 (Nat.le_refl _) (by omega) (by omega)
set_option maxRecDepth 100000 in
set_option maxHeartbeats 8000000 in
theorem dots_calls {A1 A2 A3 : Option Addr} {n1 n2 n3 c1 c2 c3 fill : Nat} {row other : List Nat} {srcs : List (List Nat)} {w : World} (h1 : row.length = n1) (h2 : other.length = n2) (h3 : srcs.length = n3) (hb1 : n1 ≤ 140737488351232) (hb2 : n2 ≤ 140737488351232) (hf : Fit srcs) (h81 : B8 row) (h82 : B8 other) (h83 : B8L srcs) (hr1 : Rd w A1 row) (hr2 : Rd w A2 other) (hr3 : RdL w [] A3 srcs) (hfill : fill < 256) :
    Calls Try.prog 7 #[.agg #[.slice A1 n1 c1, .slice A2 n2 c2, .slice A3 n3 c3, .int .u8 (fill : Int)]] w fun e w' => e = .returned (.bool true) ∧ St w w' [] [] := by
  have L1 := Lib.hid h1; have L2 := Lib.hid h2; have L3 := Lib.hid h3; have HF := Lib.hid hf; have H81 := Lib.hid h81; have H82 := Lib.hid h82; have H83 := Lib.hid h83; have R1 := Lib.hid hr1; have R2 := Lib.hid hr2; have R3 := Lib.hid hr3
  have hb3 : n3 ≤ 140737488351232 := by have := hf.1; omega
  clear h1 h2 h3 hf h81 h82 h83 hr1 hr2 hr3
  have S0 := Lib.hid (St.start w)
  go_enter Try.func7, Try.ntmps7
  go_wp2_with ((with_reducible refine at_slot (N := 1) rfl ?_); refine box_law rfl _ _ #[.slice A1 n1 c1, .slice A2 n2 c2, .slice A3 n3 c3, .int .u8 (fill : Int)] rfl rfl S0.out ?_; intro ob w1 h1; (try simp only [World.size_alloc, List.nil_append, List.cons_append, List.append_eq] at h1); have S1 := Lib.hid h1; clear h1 S0)
  have y0 := (S1.out.blk mem0).cell (i := 0) rfl
  have y1 := (S1.out.blk mem0).cell (i := 1) rfl
  have y2 := (S1.out.blk mem0).cell (i := 2) rfl
  have y3 := (S1.out.blk mem0).cell (i := 3) rfl
  go_quiet (fail)
  clear y0 y1 y2 y3
  have SA := Lib.hid (S1.out.drewN (n := nq)).nil; clear S1
  go_wp2_with fail
  refine (sets_st _).mono ?_
  rintro e w2 ⟨A, c, p0, p1, p2, T0, T1, T2, G, rfl, g0, g1, g2, hg, hh⟩
  have h2 := SA.out.call hh; clear hh SA
  try simp only [List.nil_append, List.cons_append, List.append_eq, Int.toNat_natCast] at h2
  have E0 := Lib.hid g0; have E1 := Lib.hid g1; have E2 := Lib.hid g2; have HG := Lib.hid hg; clear g0 g1 g2 hg; rw [List.append_nil] at h2
  have S2 := Lib.hid h2; clear h2
  go_wp2_with fail
  refine (fixed_st _).mono ?_
  rintro e w3 ⟨rfl, hh⟩
  have h3 := S2.out.call hh; clear hh S2
  try simp only [List.nil_append, List.cons_append, List.append_eq, Int.toNat_natCast] at h3
  have S3 := Lib.hid h3; clear h3
  have SB := S3; clear S3
  by_cases h0 : n3 = 0
  · subst h0
    go_wp2_with fail
    go_ret
    exact ⟨rfl, SB.out.nil⟩
  · have q0 : ((n3 : Int) == 0) = false := by rw [beq_eq_false_iff_ne]; omega
    have q0' : (n3 == 0) = false := by simpa using h0
    by_cases h13 : n1 = n3
    · subst h13
      by_cases h23 : n2 = n1
      · subst h23
        obtain ⟨n, rfl⟩ : ∃ n, n = n2 := ⟨_, rfl⟩
        have hn0 : 0 < n := by omega
        obtain ⟨b3, o3, B3, d3, e3, x3, _, r3, _⟩ := R3.out.at (i := 0) (by rw [L3.out]; exact hn0)
        subst e3
        rw [Nat.add_zero] at x3
        have HX0 := Lib.hid (fun (w' : World) (N' : List Ent) (hs : St w w' [] N') => (⟨by rw [hs.below.cell (p := ⟨b3, o3, none⟩) (cell_lt x3)]; exact x3, hs.ext r3⟩ : w'.cell? ⟨b3, o3, none⟩ = some (.slice B3 (srcs.getD 0 []).length d3) ∧ Rd w' B3 (srcs.getD 0 [])))
        clear r3 x3
        have x3 := (HX0.out _ _ SB.out).1
        obtain ⟨q, hq⟩ : ∃ q, Hid ((srcs.getD 0 []).length = q) := ⟨_, Lib.hid rfl⟩
        have hq47 : q ≤ 140737488351232 := by rw [← hq.out]; exact HF.out.get 0
        rw [hq.out] at x3 HX0
        have n0 : (0 : Int) < (n : Int) := by omega
        go_wp2_with fail
        clear x3
        go_loop [68] (fun vi => ∃ i : Nat, i ≤ n ∧ vi = .int .i64 i ∧ ∀ j, j < i → (srcs.getD j []).length = q) (fun vi => n - (intOf vi).toNat)
        case atStart => exact ⟨0, by omega, rfl, fun j hj => by omega⟩
        case round =>
          obtain ⟨i, hi, rfl, hall⟩ := hrel
          have HALL := Lib.hid hall; clear hall
          by_cases hlt : i < n
          · obtain ⟨b4, o4, B4, d4, e4, x4, g4, r4, _⟩ := (SB.out.extL R3.out).at (i := i) (by rw [L3.out]; exact hlt)
            injection e4 with e4; injection e4 with e41 e42 _
            rw [← e41, ← e42] at x4
            obtain ⟨q', hq'⟩ : ∃ q', Hid ((srcs.getD i []).length = q') := ⟨_, Lib.hid rfl⟩
            rw [hq'.out] at x4
            clear r4 g4 e41 e42
            have i1 : (i : Int) < (n : Int) := by omega
            by_cases hqn : q' = q
            · subst hqn
              go_wp2_with fail
              clear x4
              go_round
              case rel => exact ⟨i + 1, by omega, by go_num, fun j hj => by
                rcases Nat.lt_or_ge j i with h | h
                · exact HALL.out j h
                · obtain rfl : j = i := by omega
                  exact hq'.out⟩
              case measure => simp [intOf]; omega
            · have q1 : (q' == q) = false := by simpa using hqn
              have q2 : (((q' : Nat) : Int) != ((q : Nat) : Int)) = true := by rw [bne_iff_ne]; omega
              have q3 : (q' != q) = true := by rw [bne_iff_ne]; exact hqn
              clear hqn
              go_wp2_with fail
              go_ret
              exact ⟨rfl, SB.out.nil⟩
          · obtain rfl : i = n := by omega
            have HL : Hid (∀ l ∈ srcs, l.length = q) := Lib.hid (fun l hl => by
              obtain ⟨u, hu, rfl⟩ := List.getElem_of_mem hl
              have := HALL.out u (by rw [← L3.out]; exact hu)
              rw [← this]; simp [hu])
            clear HALL hlt hi
            obtain ⟨n, rfl⟩ : ∃ n, n = i := ⟨_, rfl⟩
            go_wp2_with fail
            refine (copied_st L1.out (by omega) (SB.out.ext R1.out)).mono ?_
            rintro e w4 ⟨bo, rfl, hh⟩
            have h4 := SB.out.call hh; clear hh SB
            try simp only [List.nil_append, List.cons_append, List.append_eq, Int.toNat_natCast] at h4
            have S4 := Lib.hid h4; clear h4
            have SC := S4; clear S4
            go_wp2_with fail
            have HVL : Hid ((xs row other).length = n) := Lib.hid (by rw [xs_length, L1.out])
            have HVG : Hid (∀ i, i < n → (xs row other).getD i 0 = row.getD i 0 ^^^ other.getD i 0) := Lib.hid (fun i hi => xs_get (by rw [L1.out]; exact hi))
            have SC0 : Hid (St w _ [] (bt bo (Wr.wr row 0 ((xs row other).take 0)) :: (G ++ (T0 ++ (T1 ++ T2))))) := Lib.hid SC.out
            clear SC
            go_loopw [81] (fun vi wq => ∃ i : Nat, i ≤ n ∧ vi = .int .i64 i ∧ St w wq [] (bt bo (Wr.wr row 0 ((xs row other).take i)) :: (G ++ (T0 ++ (T1 ++ T2))))) (fun vi _ => n - (intOf vi).toNat)
            case atStart => exact ⟨0, by omega, rfl, SC0.out⟩
            case round =>
              clear SC0
              obtain ⟨i, hi, rfl, hs⟩ := hrel
              have S1 := Lib.hid hs; clear hs
              by_cases hlt : i < n
              · obtain ⟨b5, o5, e5, k5⟩ := (S1.out.ext R2.out) (by rw [L2.out]; omega)
                have x5 := k5 i (by rw [L2.out]; exact hlt)
                subst e5
                clear k5
                have x6 := (S1.out.blk (b := bo) (t := 5) mem0).cellRow (i := i) (by rw [wr_length, L1.out]; exact hlt)
                have f6 := (S1.out.blk (b := bo) (t := 5) mem0).free (i := i)
                have hg : (Wr.wr row 0 ((xs row other).take i)).getD i 0 = row.getD i 0 := by
                  have h1 := HVL.out
                  have h2 := L1.out
                  rw [List.getD_eq_getElem?_getD, wr_get _ _ _ _ (by rw [List.length_take, h1]; omega), if_neg (by rw [List.length_take, h1]; omega), ← List.getD_eq_getElem?_getD]
                rw [hg] at x6
                clear hg
                have y5 := H82.out.get (i := i) (by rw [L2.out]; exact hlt)
                have y6 := H81.out.get (i := i) (by rw [L1.out]; exact hlt)
                have HV2 := Lib.hid (HVG.out i hlt)
                have HW := Lib.hid (wr_take_succ (D := row) (o := 0) (vs := xs row other) (i := i) (by rw [HVL.out]; exact hlt))
                rw [HV2.out, Nat.zero_add] at HW
                generalize row.getD i 0 = u at *
                generalize other.getD i 0 = v at *
                have e3 : Go.bits .xor .u8 (u : Int) (v : Int) = ((u ^^^ v : Nat) : Int) := Bt.xor8 y6 y5
                have i1 : (i : Int) < (n : Int) := by omega
                go_wp2_with fail
                refine Qt.quiet_tail 10 (by kernel_rfl) (by kernel_rfl) ?_
                simp only [List.take_succ_cons, List.take_zero, List.drop_succ_cons, List.drop_zero]
                iterate 10 (first | go_big_quiet_step (fail) | quiet_step (fail))
                refine wpQuiet_nil ?_
                rintro _ ⟨nq, rfl⟩
                go_wp2_with fail
                have S6 := Lib.hid ((S1.out.drewN (n := nq)).setRow (N1 := []) i (u ^^^ v))
                rw [← HW.out] at S6
                refine ⟨⟨i + 1, by omega, by simp, S6.out⟩, ?_⟩
                simp [intOf]; omega
              · obtain rfl : i = n := by omega
                have e : (xs row other).take i = xs row other := List.take_of_length_le (by rw [HVL.out]; exact Nat.le_refl _)
                rw [e, wr_all _ _ (by rw [xs_length])] at S1
                clear e hlt hi
                obtain ⟨n, rfl⟩ : ∃ n, n = i := ⟨_, rfl⟩
                have HB8 := Lib.hid (xs_b8 H81.out H82.out (by rw [L1.out, L2.out]))
                have HBO : Hid (xs row other = xs row other) := Lib.hid rfl
                obtain ⟨both, hboth⟩ : ∃ both, Hid (xs row other = both) := ⟨_, Lib.hid rfl⟩
                rw [hboth.out] at S1 HVL HB8 HVG
                clear HBO
                have SD := S1; clear S1
                go_wp2_with fail
                go_loopw [97] (fun vi wq => ∃ i : Nat, i ≤ 3 ∧ vi = .int .i64 i ∧ St w wq [] (bt bo both :: (G ++ (T0 ++ (T1 ++ T2))))) (fun vi _ => 3 - (intOf vi).toNat)
                case atStart => exact ⟨0, by omega, rfl, SD.out⟩
                case round =>
                  clear SD
                  obtain ⟨i, hi, rfl, hs⟩ := hrel
                  have S2 := Lib.hid hs; clear hs
                  by_cases hlt : i < 3
                  · obtain ⟨p, S, hp, hSE, hSM⟩ := pick3 (G := G) E0.out E1.out E2.out hlt
                    have SE := Lib.hid hSE; have SM := Lib.hid hSM; clear hSE hSM
                    obtain ⟨b4, o4, e4, k4⟩ := (sets_get (ps := [some p0, some p1, some p2]) HG.out S2.out (fun e he => by simp [he])) (by simp)
                    have x4 := k4 i _ hp
                    subst e4
                    clear k4 hp
                    simp only [ep, Option.map_some] at x4
                    have i1 : (i : Int) < 3 := by omega
                    go_upto_region 23 with (fail)
                    clear x4
                    go_cut [15, 16, 17, 18] (fun s15 s16 s17 s18 wx => ∃ a b c d : Nat, s15 = .slice (some ⟨a, 0, none⟩) q q ∧ s16 = .slice (some ⟨b, 0, none⟩) q q ∧ s17 = .slice (some ⟨c, 0, none⟩) q q ∧ s18 = .slice (some ⟨d, 0, none⟩) q q ∧ St w wx [] (bt a (zs q) :: bt b (zs q) :: bt c (zs q) :: bt d (zs q) :: bt bo both :: (G ++ (T0 ++ (T1 ++ T2)))))
                    case first => as_aux_lemma =>
                      have hmk : ∀ w : World, (Instr.makeSlice 39 (.int .i64 (q : Int)) (.int .i64 (q : Int))).run Try.prog w = .ok (.slice (some ⟨w.heap.size, 0, none⟩) q q) (w.alloc (.cells (Mm.row .u8 (zs q)) 5 (0, 0))) := fun w => mk_zs w q (by omega)
                      have S3 := ((((S2.out.alloc 5 (Mm.row .u8 (zs q))).alloc 5 (Mm.row .u8 (zs q))).alloc 5 (Mm.row .u8 (zs q))).alloc 5 (Mm.row .u8 (zs q))).drew
                      simp only [World.size_alloc] at S3
                      have SZ : Hid (St w ((((wr.alloc (.cells (Mm.row .u8 (zs q)) 5 (0, 0))).alloc (.cells (Mm.row .u8 (zs q)) 5 (0, 0))).alloc (.cells (Mm.row .u8 (zs q)) 5 (0, 0))).alloc (.cells (Mm.row .u8 (zs q)) 5 (0, 0))).drew [] (bt (wr.heap.size + 1 + 1 + 1) (zs q) :: bt (wr.heap.size + 1 + 1) (zs q) :: bt (wr.heap.size + 1) (zs q) :: bt wr.heap.size (zs q) :: bt bo both :: (G ++ (T0 ++ (T1 ++ T2))))) := Lib.hid S3
                      clear S3 S2
                      generalize bt bo both :: (G ++ (T0 ++ (T1 ++ T2))) = MM at *
                      go_region_held3 (fun _ => True) (trivial) (fail)
                      all_goals (go_wp2_with fail; go_meet; exact ⟨_, _, _, _, rfl, rfl, rfl, rfl, SZ.out.perm (perm_of fun a => by simp only [cnt_cons]; try omega)⟩)
                    case rest =>
                      obtain ⟨xa, xb, xc, xd, rfl, rfl, rfl, rfl, hs⟩ := hcut
                      have SF := Lib.hid hs; clear hs
                      obtain ⟨K, hK⟩ : ∃ K, Hid (G ++ (T0 ++ (T1 ++ T2)) = K) := ⟨_, Lib.hid rfl⟩
                      rw [hK.out] at SF SM
                      obtain ⟨f1, hf1⟩ : ∃ f1, Hid (fill ^^^ 1 = f1) := ⟨_, Lib.hid rfl⟩
                      obtain ⟨f2, hf2⟩ : ∃ f2, Hid (fill ^^^ 2 = f2) := ⟨_, Lib.hid rfl⟩
                      have ef1 : Go.bits .xor .u8 (fill : Int) 1 = (f1 : Int) := by rw [← hf1.out]; exact Bt.xor8 hfill (by decide)
                      have ef2 : Go.bits .xor .u8 (fill : Int) 2 = (f2 : Int) := by rw [← hf2.out]; exact Bt.xor8 hfill (by decide)
                      have F18 : f1 < 256 := by rw [← hf1.out]; exact Nat.xor_lt_two_pow (n := 8) hfill (by decide)
                      have F28 : f2 < 256 := by rw [← hf2.out]; exact Nat.xor_lt_two_pow (n := 8) hfill (by decide)
                      go_wp2_with fail
                      go_loopw [111] (fun vi wq => ∃ (u : Nat) (Va Vb Vc Vd : List Nat), u ≤ q ∧ vi = .int .i64 u ∧ (Va.length = q ∧ Vb.length = q ∧ Vc.length = q ∧ Vd.length = q) ∧ (B8 Va ∧ B8 Vb ∧ B8 Vc ∧ B8 Vd) ∧ St w wq [] (bt xa Va :: bt xb Vb :: bt xc Vc :: bt xd Vd :: bt bo both :: K)) (fun vi _ => q - (intOf vi).toNat)
                      case atStart => exact ⟨0, zs q, zs q, zs q, zs q, by omega, rfl, ⟨zs_length q, zs_length q, zs_length q, zs_length q⟩, ⟨B8.zeros q, B8.zeros q, B8.zeros q, B8.zeros q⟩, SF.out⟩
                      case round =>
                        clear SF
                        obtain ⟨u, Va, Vb, Vc, Vd, hu, rfl, ⟨la, lb, lc, ld⟩, ⟨ba, bb, bc, bd⟩, hs⟩ := hrel
                        have SG := Lib.hid hs; have LA := Lib.hid la; have LB := Lib.hid lb; have LC := Lib.hid lc; have LD := Lib.hid ld; have BA := Lib.hid ba; have BB := Lib.hid bb; have BC := Lib.hid bc; have BD := Lib.hid bd
                        clear hs la lb lc ld ba bb bc bd
                        by_cases huq : u < q
                        · have ya := (SG.out.blk (b := xa) (t := 5) mem0).cellRow (i := u) (by rw [LA.out]; exact huq)
                          have yb := (SG.out.blk (b := xb) (t := 5) mem1).cellRow (i := u) (by rw [LB.out]; exact huq)
                          have yc := (SG.out.blk (b := xc) (t := 5) mem2).cellRow (i := u) (by rw [LC.out]; exact huq)
                          have yd := (SG.out.blk (b := xd) (t := 5) mem3).cellRow (i := u) (by rw [LD.out]; exact huq)
                          have za := (SG.out.blk (b := xa) (t := 5) mem0).free (i := u)
                          have zb := (SG.out.blk (b := xb) (t := 5) mem1).free (i := u)
                          have zc := (SG.out.blk (b := xc) (t := 5) mem2).free (i := u)
                          have zd := (SG.out.blk (b := xd) (t := 5) mem3).free (i := u)
                          have dab : xa ≠ xb := SG.out.ne 0 1 rfl rfl (by decide)
                          have dac : xa ≠ xc := SG.out.ne 0 2 rfl rfl (by decide)
                          have dad : xa ≠ xd := SG.out.ne 0 3 rfl rfl (by decide)
                          have dbc : xb ≠ xc := SG.out.ne 1 2 rfl rfl (by decide)
                          have dbd : xb ≠ xd := SG.out.ne 1 3 rfl rfl (by decide)
                          have dcd : xc ≠ xd := SG.out.ne 2 3 rfl rfl (by decide)
                          have dba := dab.symm; have dca := dac.symm; have dda := dad.symm; have dcb := dbc.symm; have ddb := dbd.symm; have ddc := dcd.symm
                          generalize Va.getD u 0 = va at *
                          generalize Vb.getD u 0 = vb at *
                          generalize Vc.getD u 0 = vc at *
                          generalize Vd.getD u 0 = vd at *
                          have u1 : (u : Int) < (q : Int) := by omega
                          go_wp2_with fail
                          have S9 := Lib.hid ((((SG.out.setRow (N1 := []) u fill).setRow (N1 := [_]) u fill).setRow (N1 := [_, _]) u f1).setRow (N1 := [_, _, _]) u f2)
                          clear SG ya yb yc yd za zb zc zd
                          refine ⟨⟨u + 1, _, _, _, _, by omega, by simp, ⟨by rw [List.length_set]; exact LA.out, by rw [List.length_set]; exact LB.out, by rw [List.length_set]; exact LC.out, by rw [List.length_set]; exact LD.out⟩, ⟨fun x hx => (List.mem_or_eq_of_mem_set hx).elim (BA.out x) (fun e => e ▸ hfill), fun x hx => (List.mem_or_eq_of_mem_set hx).elim (BB.out x) (fun e => e ▸ hfill), fun x hx => (List.mem_or_eq_of_mem_set hx).elim (BC.out x) (fun e => e ▸ F18), fun x hx => (List.mem_or_eq_of_mem_set hx).elim (BD.out x) (fun e => e ▸ F28)⟩, S9.out⟩, ?_⟩
                          simp [intOf]; omega
                        · obtain rfl : u = q := by omega
                          obtain ⟨q, rfl⟩ : ∃ q, q = u := ⟨_, rfl⟩
                          clear ef1 ef2 huq hu
                          have DOK1 : Hid (DotOk row srcs q) := Lib.hid ⟨by rw [L1.out, L3.out], HL.out⟩
                          have DOK2 : Hid (DotOk other srcs q) := Lib.hid ⟨by rw [L2.out, L3.out], HL.out⟩
                          have DOK3 : Hid (DotOk both srcs q) := Lib.hid ⟨by rw [HVL.out, L3.out], HL.out⟩
                          have FL := Lib.hid (fits_lit (row := row) (srcs := srcs) (D := Vd) (n := q) (by rw [L1.out, L3.out]) HL.out LD.out)
                          have AL := Lib.hid (app_lit (row := row) (srcs := srcs) (D := Vd) (n := q) (by rw [L1.out, L3.out]) HL.out LD.out)
                          go_wp2_with fail
                          refine (copied_st L1.out (by omega) (SG.out.ext R1.out)).mono ?_
                          rintro e w5 ⟨r1, rfl, hh⟩
                          have K5 := Lib.hid hh
                          have h5 := SG.out.call hh; clear hh
                          try simp only [List.nil_append, List.cons_append, List.append_eq, Int.toNat_natCast] at h5
                          have S5 := Lib.hid h5; clear h5
                          go_wp2_with fail
                          refine (copies_st L3.out HF.out (S5.out.extL R3.out)).mono ?_
                          rintro e w6 ⟨A6, c6, bs6, G6, rfl, hc, hh⟩
                          have K6 := Lib.hid hh
                          have C6 := Lib.hid hc; clear hc
                          have h6 := S5.out.call hh; clear hh S5
                          try simp only [List.nil_append, List.cons_append, List.append_eq, Int.toNat_natCast] at h6
                          have S6 := Lib.hid h6; clear h6
                          go_wp2_with fail
                          refine (dotC' (M1 := []) SE.out SG.out (fun e he => by simp [SM.out e he]) K5.out K6.out C6.out LA.out BA.out L1.out H81.out HF.out H83.out hq47 DOK1.out).mono ?_
                          rintro e w7 ⟨rfl, hh⟩
                          have S7 := Lib.hid hh; clear hh C6 K5 K6 S6 SG
                          go_wp2_with fail
                          refine (copied_st L2.out (by omega) (S7.out.ext R2.out)).mono ?_
                          rintro e w8 ⟨r1, rfl, hh⟩
                          have K8 := Lib.hid hh
                          have h8 := S7.out.call hh; clear hh
                          try simp only [List.nil_append, List.cons_append, List.append_eq, Int.toNat_natCast] at h8
                          have S8 := Lib.hid h8; clear h8
                          go_wp2_with fail
                          refine (copies_st L3.out HF.out (S8.out.extL R3.out)).mono ?_
                          rintro e w9 ⟨A6, c6, bs6, G6, rfl, hc, hh⟩
                          have K9 := Lib.hid hh
                          have C9 := Lib.hid hc; clear hc
                          have h9 := S8.out.call hh; clear hh S8
                          try simp only [List.nil_append, List.cons_append, List.append_eq, Int.toNat_natCast] at h9
                          have S9 := Lib.hid h9; clear h9
                          go_wp2_with fail
                          refine (dotC' (M1 := [_]) SE.out S7.out (fun e he => by simp [SM.out e he]) K8.out K9.out C9.out LB.out BB.out L2.out H82.out HF.out H83.out hq47 DOK2.out).mono ?_
                          rintro e w10 ⟨rfl, hh⟩
                          have S10 := Lib.hid hh; clear hh C9 K8 K9 S7 S9
                          go_wp2_with fail
                          refine (copied_st HVL.out (by omega) (S10.out.rd (b := bo) (t := 5) (by simp))).mono ?_
                          rintro e w11 ⟨r1, rfl, hh⟩
                          have K11 := Lib.hid hh
                          have h11 := S10.out.call hh; clear hh
                          try simp only [List.nil_append, List.cons_append, List.append_eq, Int.toNat_natCast] at h11
                          have S11 := Lib.hid h11; clear h11
                          go_wp2_with fail
                          refine (copies_st L3.out HF.out (S11.out.extL R3.out)).mono ?_
                          rintro e w12 ⟨A6, c6, bs6, G6, rfl, hc, hh⟩
                          have K12 := Lib.hid hh
                          have C12 := Lib.hid hc; clear hc
                          have h12 := S11.out.call hh; clear hh S11
                          try simp only [List.nil_append, List.cons_append, List.append_eq, Int.toNat_natCast] at h12
                          have S12 := Lib.hid h12; clear h12
                          go_wp2_with fail
                          refine (dotC' (M1 := [_, _]) SE.out S10.out (fun e he => by simp [SM.out e he]) K11.out K12.out C12.out LC.out BC.out HVL.out HB8.out HF.out H83.out hq47 DOK3.out).mono ?_
                          rintro e w13 ⟨rfl, hh⟩
                          have S13 := Lib.hid hh; clear hh C12 K11 K12 S10 S12
                          go_wp2_with fail
                          refine (copied_st L1.out (by omega) (S13.out.ext R1.out)).mono ?_
                          rintro e w14 ⟨r1, rfl, hh⟩
                          have K14 := Lib.hid hh
                          have h14 := S13.out.call hh; clear hh
                          try simp only [List.nil_append, List.cons_append, List.append_eq, Int.toNat_natCast] at h14
                          have S14 := Lib.hid h14; clear h14
                          go_wp2_with ((with_reducible refine at_slot (N := 157) rfl ?_); refine bslice_st rfl _ 39 1 _ (cellsV es [⟨some ⟨r1, 0, none⟩, n, n⟩]) rfl (fun _ => by kernel_rfl) S14.out ?_; intro sb1 w15 h15; (try simp only [World.size_alloc, List.nil_append, List.cons_append, List.append_eq] at h15); have S15 := Lib.hid h15; clear h15 S14)
                          refine (copies_st L3.out HF.out (S15.out.extL R3.out)).mono ?_
                          rintro e w16 ⟨A6, c6, bs6, G6, rfl, hc, hh⟩
                          have K16 := Lib.hid hh
                          have C16 := Lib.hid hc; clear hc
                          have h16 := S15.out.call hh; clear hh S15
                          try simp only [List.nil_append, List.cons_append, List.append_eq, Int.toNat_natCast] at h16
                          have S16 := Lib.hid h16; clear h16
                          go_wp2_with ((with_reducible refine at_slot (N := 161) rfl ?_); refine bslice_st rfl _ 39 1 _ (cellsV es [⟨some ⟨xd, 0, none⟩, q, q⟩]) rfl (fun _ => by kernel_rfl) S16.out ?_; intro sb2 w17 h17; (try simp only [World.size_alloc, List.nil_append, List.cons_append, List.append_eq] at h17); have S17 := Lib.hid h17; clear h17 S16)
                          refine (applyL (r1 := r1) (sb1 := sb1) (sb2 := sb2) (X := [_] ++ (G6 ++ (ents bs6 srcs ++ [_, _]))) (M1 := [_, _, _]) (bs := bs6) SE.out (by have := S17.out; simp only [List.append_assoc, List.cons_append, List.nil_append] at this ⊢; exact this) (fun e he => by simp [SM.out e he]) (by simp) (by simp) (fun e he => by simp [he]) (fun e he => by simp [he]) C16.out (by simp) L1.out LD.out H81.out BD.out HF.out H83.out hb1 hq47 DOK1.out).mono ?_
                          rintro e w18 ⟨rfl, hh⟩
                          have S18 := Lib.hid hh; clear hh C16 K14 K16 S13 S17
                          go_wp2_with fail
                          refine (equal_same (l := sumL row srcs 0 q) (sumL_length _ _ _ _) (by omega) (sumL_b8 H81.out) (S18.out.rd (b := xa) (t := 5) mem0) (S18.out.rd (b := xd) (t := 5) mem3)).mono ?_
                          rintro e _ ⟨rfl, n19, rfl⟩
                          have h19 := S18.out.drewN (n := n19); clear S18
                          have S19 := Lib.hid h19; clear h19
                          go_wp2_with fail
                          refine (xorS (X := []) (M1 := []) S19.out (sumL_length _ _ _ _) (sumL_b8 H81.out) (sumL_length _ _ _ _) (sumL_b8 H82.out) hq47 ⟨S19.out.rd (b := xb) (t := 5) mem1, Off.some (by have := S19.out.ne 1 0 rfl rfl (by decide); simpa using this)⟩).mono ?_
                          rintro e w20 ⟨rfl, hh⟩
                          rw [sum_xs H81.out H82.out (by rw [L1.out, L2.out]), hboth.out] at hh
                          have S20 := Lib.hid hh; clear hh S19
                          go_wp2_with fail
                          refine (equal_same (l := sumL both srcs 0 q) (sumL_length _ _ _ _) (by omega) (sumL_b8 HB8.out) (S20.out.rd (b := xa) (t := 5) mem0) (S20.out.rd (b := xc) (t := 5) mem2)).mono ?_
                          rintro e _ ⟨rfl, n21, rfl⟩
                          have h21 := S20.out.drewN (n := n21); clear S20
                          have S21 := Lib.hid h21; clear h21
                          have H80 := Lib.hid (H83.out.get 0)
                          generalize srcs.getD 0 [] = s0 at *
                          have x3 := (HX0.out _ _ S21.out).1
                          go_wp2_with ((with_reducible refine at_slot (N := 197) rfl ?_); refine bslice_st rfl _ 5 1 _ (Mm.row .u8 [1]) rfl (fun _ => by kernel_rfl) S21.out ?_; intro ob1 w22 h22; have x3 := (HX0.out _ _ h22).1; (try simp only [World.size_alloc, List.nil_append, List.cons_append, List.append_eq] at h22); have S22 := Lib.hid h22; clear h22)
                          refine (copied_st hq.out (by omega) (HX0.out _ _ S22.out).2).mono ?_
                          rintro e w23 ⟨t0, rfl, hh⟩
                          have K23 := Lib.hid hh
                          have h23 := S22.out.call hh; clear hh S22
                          try simp only [List.nil_append, List.cons_append, List.append_eq, Int.toNat_natCast] at h23
                          have S23 := Lib.hid h23; clear h23
                          clear x3
                          go_wp2_with ((with_reducible refine at_slot (N := 202) rfl ?_); refine bslice_st rfl _ 39 1 _ (cellsV es [⟨some ⟨t0, 0, none⟩, q, q⟩]) rfl (fun _ => by kernel_rfl) S23.out ?_; intro sb w24 h24; (try simp only [World.size_alloc, List.nil_append, List.cons_append, List.append_eq] at h24); have S24 := Lib.hid h24; clear h24 S23)
                          refine (dotL (q := ob1) (sb := sb) (row := [1]) (srcs := [s0]) (bs := [t0]) (X := [_, _, _]) (M1 := [_, _, _]) SE.out S24.out (fun e he => by simp [SM.out e he]) (sumL_length _ _ _ _) (sumL_b8 H81.out) rfl (by simp) (B8.of_all (by decide)) rfl (by simp [sds, hq.out]) (fun e he => by rw [List.mem_singleton.1 he]; simp) (by have := S24.out.ne 1 6 rfl rfl (by decide); simp at this; simp; exact fun h => this h.symm) rfl ⟨by show 1 * 24 ≤ _; omega, fun l hl => by rw [List.mem_singleton.1 hl, hq.out]; exact hq47⟩ (fun l hl => by rw [List.mem_singleton.1 hl]; exact H80.out) hq47 ⟨rfl, fun l hl => by rw [List.mem_singleton.1 hl]; exact hq.out⟩).mono ?_
                          rintro e w25 ⟨rfl, hh⟩
                          rw [sum_one hq.out H80.out] at hh
                          have S25 := Lib.hid hh; clear hh K23 S21 S24
                          have x3 := (HX0.out _ _ S25.out).1
                          go_wp2_with fail
                          refine (equal_same (l := s0) hq.out (by omega) H80.out (S25.out.rd (b := xd) (t := 5) mem3) (HX0.out _ _ S25.out).2).mono ?_
                          rintro e _ ⟨rfl, n26, rfl⟩
                          have h26 := S25.out.drewN (n := n26); clear S25
                          have S26 := Lib.hid h26; clear h26
                          clear x3
                          have x3 := (HX0.out _ _ S26.out).1
                          go_wp2_with fail
                          refine (copied_st hq.out (by omega) (HX0.out _ _ S26.out).2).mono ?_
                          rintro e w27 ⟨tw, rfl, hh⟩
                          have h27 := S26.out.call hh; clear hh S26
                          try simp only [List.nil_append, List.cons_append, List.append_eq, Int.toNat_natCast] at h27
                          have S27 := Lib.hid h27; clear h27
                          have SH := S27; clear S27
                          clear x3
                          obtain ⟨b5, o5, e5, k5⟩ := R1.out (by rw [L1.out]; omega)
                          obtain ⟨b6, o6, e6, k6⟩ := R2.out (by rw [L2.out]; omega)
                          have x5 := k5 0 (by rw [L1.out]; exact hn0)
                          have x6 := k6 0 (by rw [L2.out]; exact hn0)
                          subst e5 e6
                          clear k5 k6
                          rw [Nat.add_zero] at x5 x6
                          have HC5 := Lib.hid (fun (w' : World) (N' : List Ent) (hs : St w w' [] N') => (⟨by rw [hs.below.cell (p := ⟨b5, o5, none⟩) (cell_lt x5)]; exact x5, by rw [hs.below.cell (p := ⟨b6, o6, none⟩) (cell_lt x6)]; exact x6⟩ : w'.cell? ⟨b5, o5, none⟩ = some (.int .u8 ((row.getD 0 0 : Nat) : Int)) ∧ w'.cell? ⟨b6, o6, none⟩ = some (.int .u8 ((other.getD 0 0 : Nat) : Int))))
                          clear x5 x6
                          obtain ⟨x5, x6⟩ := HC5.out _ _ SH.out
                          have y5 := H81.out.get (i := 0) (by rw [L1.out]; exact hn0)
                          have y6 := H82.out.get (i := 0) (by rw [L2.out]; exact hn0)
                          have hb0 := HVG.out 0 hn0
                          have HB0 := Lib.hid hb0; clear hb0
                          generalize row.getD 0 0 = r0 at *
                          generalize other.getD 0 0 = v0 at *
                          go_upto_region 42 with (fail)
                          go_cut [27] (fun s27 wx => s27 = .int .i64 0 ∧ St w wx [] (bt tw s0 :: bt xa (sumL both srcs 0 q) :: bt xb (sumL other srcs 0 q) :: bt xc (sumL both srcs 0 q) :: bt xd (s0.map (gm (r0 ^^^ v0))) :: bt bo both :: K))
                          case first =>
                            have hA1 := ((SH.out.alloc 5 (Mm.row .u8 [r0, v0])).alloc 39 (cellsV es [⟨some ⟨tw, 0, none⟩, q, q⟩, ⟨some ⟨tw, 0, none⟩, q, q⟩])).drew
                            have hA2 := ((SH.out.alloc 39 (cellsV es [⟨some ⟨tw, 0, none⟩, q, q⟩, ⟨some ⟨tw, 0, none⟩, q, q⟩])).alloc 5 (Mm.row .u8 [r0, v0])).drew
                            simp only [World.size_alloc] at hA1 hA2
                            have HA1 : Hid (St w ((w27.alloc (.cells #[.int .u8 (r0 : Int), .int .u8 (v0 : Int)] 5 (0, 0))).alloc (.cells #[.slice (some ⟨tw, 0, none⟩) q q, .slice (some ⟨tw, 0, none⟩) q q] 39 (0, 0))).drew [] ([⟨w27.heap.size + 1, 39, cellsV es [⟨some ⟨tw, 0, none⟩, q, q⟩, ⟨some ⟨tw, 0, none⟩, q, q⟩]⟩, bt w27.heap.size [r0, v0]] ++ ([bt tw s0, bt xa (sumL both srcs 0 q), bt xb (sumL other srcs 0 q), bt xc (sumL both srcs 0 q)] ++ bt xd s0 :: bt bo both :: K))) := Lib.hid hA1
                            have HA2 : Hid (St w ((w27.alloc (.cells #[.slice (some ⟨tw, 0, none⟩) q q, .slice (some ⟨tw, 0, none⟩) q q] 39 (0, 0))).alloc (.cells #[.int .u8 (r0 : Int), .int .u8 (v0 : Int)] 5 (0, 0))).drew [] ([bt (w27.heap.size + 1) [r0, v0], ⟨w27.heap.size, 39, cellsV es [⟨some ⟨tw, 0, none⟩, q, q⟩, ⟨some ⟨tw, 0, none⟩, q, q⟩]⟩] ++ ([bt tw s0, bt xa (sumL both srcs 0 q), bt xb (sumL other srcs 0 q), bt xc (sumL both srcs 0 q)] ++ bt xd s0 :: bt bo both :: K))) := Lib.hid hA2
                            clear hA1 hA2
                            have hB8 : B8 [r0, v0] := fun x hx => by
                              simp at hx; rcases hx with rfl | rfl
                              · exact y5
                              · exact y6
                            have HBB := Lib.hid hB8; clear hB8
                            have DXT := Lib.hid (SH.out.ne 0 4 rfl rfl (by decide))
                            have HS2 := Lib.hid (sum_two (n := q) hq.out y5 y6)
                            have HD42 : Hid (Calls Try.prog 18 #[.pointer (some ⟨p, 0, none⟩), .slice (some ⟨w27.heap.size, 0, none⟩) 2 2, .slice (some ⟨w27.heap.size + 1, 0, none⟩) 2 2, .slice (some ⟨xd, 0, none⟩) q q] ((w27.alloc (.cells #[.int .u8 (r0 : Int), .int .u8 (v0 : Int)] 5 (0, 0))).alloc (.cells #[.slice (some ⟨tw, 0, none⟩) q q, .slice (some ⟨tw, 0, none⟩) q q] 39 (0, 0))).drew fun e w' => e = .returned (.int .i64 0) ∧ St w w' [] ([bt tw s0, bt xa (sumL both srcs 0 q), bt xb (sumL other srcs 0 q), bt xc (sumL both srcs 0 q)] ++ bt xd (s0.map (gm (r0 ^^^ v0))) :: bt bo both :: K)) := Lib.hid (by
                              have hin : ∀ e ∈ S, e ∈ [⟨w27.heap.size + 1, 39, cellsV es [⟨some ⟨tw, 0, none⟩, q, q⟩, ⟨some ⟨tw, 0, none⟩, q, q⟩]⟩, bt w27.heap.size [r0, v0]] ++ ([bt tw s0, bt xa (sumL both srcs 0 q), bt xb (sumL other srcs 0 q), bt xc (sumL both srcs 0 q)] ++ bt xd s0 :: bt bo both :: K) := fun e he => by simp [SM.out e he]
                              have hsd : cellsV es [⟨some ⟨tw, 0, none⟩, q, q⟩, ⟨some ⟨tw, 0, none⟩, q, q⟩] = cellsV es (sds [tw, tw] [s0, s0]) := by simp [sds, hq.out]
                              have hab : xd ∉ [tw, tw] := by
                                have := DXT.out
                                intro h
                                simp at h
                                exact this h.symm
                              have hone : ∀ l ∈ [s0, s0], l = s0 := fun l hl => by simpa using hl
                              have := dotL (q := w27.heap.size) (sb := w27.heap.size + 1) (row := [r0, v0]) (srcs := [s0, s0]) (bs := [tw, tw]) (k := 2) (m := 2) (a := xd) (D := s0) (n := q) (X := [⟨w27.heap.size + 1, 39, cellsV es [⟨some ⟨tw, 0, none⟩, q, q⟩, ⟨some ⟨tw, 0, none⟩, q, q⟩]⟩, bt w27.heap.size [r0, v0]]) (M1 := [bt tw s0, bt xa (sumL both srcs 0 q), bt xb (sumL other srcs 0 q), bt xc (sumL both srcs 0 q)]) (M2 := bt bo both :: K) SE.out HA1.out hin hq.out H80.out rfl mem1 HBB.out rfl (by rw [hsd]; exact mem0) (fun e he => by
                                have he2 : e = bt tw s0 := by simpa [ents] using he
                                rw [he2]; simp) hab rfl ⟨by show 2 * 24 ≤ _; omega, fun l hl => by rw [hone l hl, hq.out]; exact hq47⟩ (fun l hl => by rw [hone l hl]; exact H80.out) hq47 ⟨rfl, fun l hl => by rw [hone l hl]; exact hq.out⟩
                              rw [HS2.out] at this
                              exact this)
                            have HD43 : Hid (Calls Try.prog 18 #[.pointer (some ⟨p, 0, none⟩), .slice (some ⟨w27.heap.size + 1, 0, none⟩) 2 2, .slice (some ⟨w27.heap.size, 0, none⟩) 2 2, .slice (some ⟨xd, 0, none⟩) q q] ((w27.alloc (.cells #[.slice (some ⟨tw, 0, none⟩) q q, .slice (some ⟨tw, 0, none⟩) q q] 39 (0, 0))).alloc (.cells #[.int .u8 (r0 : Int), .int .u8 (v0 : Int)] 5 (0, 0))).drew fun e w' => e = .returned (.int .i64 0) ∧ St w w' [] ([bt tw s0, bt xa (sumL both srcs 0 q), bt xb (sumL other srcs 0 q), bt xc (sumL both srcs 0 q)] ++ bt xd (s0.map (gm (r0 ^^^ v0))) :: bt bo both :: K)) := Lib.hid (by
                              have hin : ∀ e ∈ S, e ∈ [bt (w27.heap.size + 1) [r0, v0], ⟨w27.heap.size, 39, cellsV es [⟨some ⟨tw, 0, none⟩, q, q⟩, ⟨some ⟨tw, 0, none⟩, q, q⟩]⟩] ++ ([bt tw s0, bt xa (sumL both srcs 0 q), bt xb (sumL other srcs 0 q), bt xc (sumL both srcs 0 q)] ++ bt xd s0 :: bt bo both :: K) := fun e he => by simp [SM.out e he]
                              have hsd : cellsV es [⟨some ⟨tw, 0, none⟩, q, q⟩, ⟨some ⟨tw, 0, none⟩, q, q⟩] = cellsV es (sds [tw, tw] [s0, s0]) := by simp [sds, hq.out]
                              have hab : xd ∉ [tw, tw] := by
                                have := DXT.out
                                intro h
                                simp at h
                                exact this h.symm
                              have hone : ∀ l ∈ [s0, s0], l = s0 := fun l hl => by simpa using hl
                              have := dotL (q := w27.heap.size + 1) (sb := w27.heap.size) (row := [r0, v0]) (srcs := [s0, s0]) (bs := [tw, tw]) (k := 2) (m := 2) (a := xd) (D := s0) (n := q) (X := [bt (w27.heap.size + 1) [r0, v0], ⟨w27.heap.size, 39, cellsV es [⟨some ⟨tw, 0, none⟩, q, q⟩, ⟨some ⟨tw, 0, none⟩, q, q⟩]⟩]) (M1 := [bt tw s0, bt xa (sumL both srcs 0 q), bt xb (sumL other srcs 0 q), bt xc (sumL both srcs 0 q)]) (M2 := bt bo both :: K) SE.out HA2.out hin hq.out H80.out rfl mem0 HBB.out rfl (by rw [hsd]; exact mem1) (fun e he => by
                                have he2 : e = bt tw s0 := by simpa [ents] using he
                                rw [he2]; simp) hab rfl ⟨by show 2 * 24 ≤ _; omega, fun l hl => by rw [hone l hl, hq.out]; exact hq47⟩ (fun l hl => by rw [hone l hl]; exact H80.out) hq47 ⟨rfl, fun l hl => by rw [hone l hl]; exact hq.out⟩
                              rw [HS2.out] at this
                              exact this)
                            go_region_held3 (fun w' => w'.cell? ⟨b5, o5, none⟩ = some (.int .u8 (r0 : Int)) ∧ w'.cell? ⟨b6, o6, none⟩ = some (.int .u8 (v0 : Int))) (first | go_keep | exact HC5.out _ _ SX.out) (first
                              | (go_at_call 18; (with_reducible refine HD42.out.mono ?_); rintro e wx ⟨rfl, hh⟩; have SX := Lib.hid hh; clear hh)
                              | (go_at_call 18; (with_reducible refine HD43.out.mono ?_); rintro e wx ⟨rfl, hh⟩; have SX := Lib.hid hh; clear hh))
                            all_goals (go_wp2_with fail; go_meet; exact ⟨rfl, SX.out⟩)
                          case rest =>
                            obtain ⟨rfl, hs⟩ := hcut
                            have SJ := Lib.hid hs; clear hs
                            have x7 := (SJ.out.blk (b := bo) (t := 5) (c := Mm.row .u8 both) (by simp)).cellRow (i := 0) (by rw [HVL.out]; exact hn0)
                            rw [HB0.out] at x7
                            have hx8 : r0 ^^^ v0 < 256 := Nat.xor_lt_two_pow (n := 8) y5 y6
                            obtain ⟨m0, hm0⟩ : ∃ m0, Hid (r0 ^^^ v0 = m0) := ⟨_, Lib.hid rfl⟩
                            rw [hm0.out] at x7 hx8 SJ
                            go_wp2_with fail
                            refine (mulS (X := []) (M1 := [_, _]) (c := (m0 : Int)) SE.out SJ.out (fun e he => by simp [SM.out e he]) (by omega) (by omega) (sumL_length _ _ _ _) (sumL_b8 H82.out) hq.out H80.out (Nat.le_refl _) hq47 ⟨SJ.out.rd (b := tw) (t := 5) mem0, Off.some (by have := SJ.out.ne 0 2 rfl rfl (by decide); simpa using this)⟩).mono ?_
                            rintro e w28 ⟨rfl, hh⟩
                            rw [Int.toNat_natCast] at hh
                            have S28 := Lib.hid hh; clear hh SJ
                            have HM8 := Lib.hid (B8.map (f := gm m0) H80.out fun x _ => gm_lt x hx8)
                            have HML : Hid ((s0.map (gm m0)).length = q) := Lib.hid (by rw [List.length_map, hq.out])
                            go_wp2_with fail
                            refine (equal_same (l := s0.map (gm m0)) HML.out (by omega) HM8.out (S28.out.rd (b := xb) (t := 5) mem2) (S28.out.rd (b := xd) (t := 5) mem4)).mono ?_
                            rintro e _ ⟨rfl, n29, rfl⟩
                            have h29 := S28.out.drewN (n := n29); clear S28
                            have S29 := Lib.hid h29; clear h29
                            have x3 := (HX0.out _ _ S29.out).1
                            go_wp2_with fail
                            refine (equal_same (l := s0) hq.out (by omega) H80.out (S29.out.rd (b := tw) (t := 5) mem0) (HX0.out _ _ S29.out).2).mono ?_
                            rintro e _ ⟨rfl, n30, rfl⟩
                            have h30 := S29.out.drewN (n := n30); clear S29
                            have S30 := Lib.hid h30; clear h30
                            go_wp2_with fail
                            have hz := S30.out.drop (.cons _ (.cons _ (.cons _ (.cons _ (.cons _ (List.Sublist.refl _))))))
                            rw [← hK.out] at hz
                            refine ⟨⟨i + 1, by omega, by simp, by simpa only [World.drewN_drewN] using hz⟩, ?_⟩
                            simp [intOf]; omega
                  · obtain rfl : i = 3 := by omega
                    go_wp2_with fail
                    go_ret
                    exact ⟨rfl, S2.out.nil⟩
      · have q1 : (((n2 : Nat) : Int) != ((n1 : Nat) : Int)) = true := by rw [bne_iff_ne]; omega
        have q2 : (n2 != n1) = true := by rw [bne_iff_ne]; exact h23
        have q3 : (n2 == n1) = false := by simpa using h23
        clear h23
        go_wp2_with fail
        go_ret
        exact ⟨rfl, SB.out.nil⟩
    · have q1 : (((n1 : Nat) : Int) != ((n3 : Nat) : Int)) = true := by rw [bne_iff_ne]; omega
      have q2 : (n1 != n3) = true := by rw [bne_iff_ne]; exact h13
      have q3 : (n1 == n3) = false := by simpa using h13
      clear h13
      go_wp2_with fail
      go_ret
      exact ⟨rfl, SB.out.nil⟩

end Go.Proofs.Ytdbfkjhdnbmpeaa.Sk
