/- Layer 9: fits. -/
import Derived.Test.YtdbfkjhdnbmpeaaKc
namespace Go.Proofs.Ytdbfkjhdnbmpeaa.Sk
set_option linter.unusedSimpArgs false
set_option linter.unusedVariables false
open Go Go.RowKit Go.Proofs.Ytdbfkjhdnbmpeaa Go.Proofs.Ytdbfkjhdnbmpeaa.Mm Go.Proofs.Ytdbfkjhdnbmpeaa.Gf Go.Proofs.Ytdbfkjhdnbmpeaa.Wr Go.Proofs.Ytdbfkjhdnbmpeaa.Nb Go.Proofs.Ytdbfkjhdnbmpeaa.St

/-- All lists are as long as the first. -/
def Same (X : List (List Nat)) : Prop := ∀ x ∈ X, x.length = (X.getD 0 []).length
instance (X : List (List Nat)) : Decidable (Same X) := by unfold Same; infer_instance
def lenM (X : List (List Nat)) : Nat := (X.getD 0 []).length
def lenX (X : List (List Nat)) : Int := if X = [] then -1 else (lenM X : Int)
def LenOk (rows srcs dsts : List (List Nat)) : Prop := rows.length = dsts.length ∧ (∀ r ∈ rows, r.length = srcs.length) ∧ Same (srcs ++ dsts)
instance (rows srcs dsts : List (List Nat)) : Decidable (LenOk rows srcs dsts) := by unfold LenOk; infer_instance
/-- What Apply and Agrees refuse. -/
def fitsE (rows srcs dsts : List (List Nat)) (f t : Int) : Int := if LenOk rows srcs dsts then rngE f t (lenM (srcs ++ dsts)) else 6
theorem Same.nil : Same [] := fun x h => by simp at h
theorem Same.one (l : List Nat) : Same ([] ++ [l]) := fun x h => by
  have : x = l := by simpa using h
  rw [this]; rfl
theorem lenX_one (l : List Nat) : lenX ([] ++ [l]) = (l.length : Int) := by unfold lenX lenM; simp
theorem getD0 {Z R : List (List Nat)} (h : Z ≠ []) : (Z ++ R).getD 0 [] = Z.getD 0 [] := by
  cases Z with
  | nil => exact (h rfl).elim
  | cons a Z => rfl
theorem lenX_snoc {Z : List (List Nat)} {l : List Nat} (h : Z ≠ []) : lenX (Z ++ [l]) = lenX Z := by
  unfold lenX lenM
  rw [if_neg h, if_neg (by simp), getD0 h]
theorem lenX_of {Z : List (List Nat)} (h : Z ≠ []) : lenX Z = (lenM Z : Int) := by unfold lenX; rw [if_neg h]
theorem Same.snoc {Z : List (List Nat)} {l : List Nat} (h : Z ≠ []) (hs : Same Z) (hl : l.length = lenM Z) : Same (Z ++ [l]) := by
  intro x hx
  rw [getD0 h]
  rcases List.mem_append.1 hx with hx | hx
  · exact hs x hx
  · have : x = l := by simpa using hx
    rw [this]; exact hl
theorem Same.last {Z R : List (List Nat)} {l : List Nat} (h : Z ≠ []) (hs : Same (Z ++ ([l] ++ R))) : l.length = lenM Z := by
  have := hs l (by simp)
  rw [getD0 h] at this
  exact this
theorem take_drop1 {Y : List (List Nat)} {k : Nat} (h : k < Y.length) : Y.take k ++ ([Y.getD k []] ++ Y.drop (k + 1)) = Y := by
  have e : Y.getD k [] = Y[k] := by simp [h]
  rw [e]
  have := List.take_append_drop k Y
  rw [List.drop_eq_getElem_cons h] at this
  exact this
/-- What has been looked at ahead of the j-th list of lists. -/
def cat (srcs dsts : List (List Nat)) : Nat → List (List Nat)
  | 0 => []
  | 1 => srcs
  | _ => srcs ++ dsts

set_option maxRecDepth 100000 in
theorem fits_nil (v1 v2 v3 : Value) (f t : Int) (w : World) : Calls Try.prog 33 #[.pointer none, v1, v2, v3, .agg #[.int .i64 f, .int .i64 t]] w fun e w' => e = .returned (.int .i64 1) ∧ St w w' [] [] := by
  have S0 := Lib.hid ((St.start w).alloc 32 #[.int .i64 f, .int .i64 t]).nil
  go_enter Try.func33, Try.ntmps33
  go_wp2
  go_ret
  exact ⟨rfl, S0.out⟩

set_option maxRecDepth 100000 in
set_option maxHeartbeats 4000000 in
theorem fits_st {p j : Nat} {S : List Ent} {A1 A2 A3 : Option Addr} {n1 n2 n3 c1 c2 c3 : Nat} {rows srcs dsts : List (List Nat)} {f t : Int} {w : World} (hS : SetE p j S) (hb : There w S) (h1 : rows.length = n1) (h2 : srcs.length = n2) (h3 : dsts.length = n3) (hf1 : Fit rows) (hf2 : Fit srcs) (hf3 : Fit dsts)
    (hr : RdL w [] A1 rows) (hs : RdL w [] A2 srcs) (hd : RdL w [] A3 dsts) :
    Calls Try.prog 33 #[.pointer (some ⟨p, 0, none⟩), .slice A1 n1 c1, .slice A2 n2 c2, .slice A3 n3 c3, .agg #[.int .i64 f, .int .i64 t]] w fun e w' => e = .returned (.int .i64 (fitsE rows srcs dsts f t)) ∧ St w w' [] [] := by
  obtain ⟨T, x, F, r, hSe, _⟩ := hS.ker
  have HP := Lib.hid (show (⟨p, 79, #[.iface T (.pointer (some x)), .int .i64 (j : Int)]⟩ : Ent) ∈ S by rw [hSe]; exact mem0)
  have HB := Lib.hid hb; have HR := Lib.hid hr; have HS := Lib.hid hs; have HD := Lib.hid hd; have F1 := Lib.hid hf1; have F2 := Lib.hid hf2; have F3 := Lib.hid hf3; have L1 := Lib.hid h1; have L2 := Lib.hid h2; have L3 := Lib.hid h3
  have b1 : n1 ≤ 140737488351232 := by have := hf1.1; omega
  have b2 : n2 ≤ 140737488351232 := by have := hf2.1; omega
  have b3 : n3 ≤ 140737488351232 := by have := hf3.1; omega
  obtain ⟨E, HE⟩ : ∃ E, Hid (fitsE rows srcs dsts f t = E) := ⟨_, Lib.hid rfl⟩
  rw [HE.out]
  have S0 := Lib.hid (St.start w)
  clear hS hb hr hs hd hf1 hf2 hf3 h1 h2 h3 hSe
  have idx0 : ∀ w : World, (Instr.index 97 (.agg #[.slice A2 n2 c2, .slice A3 n3 c3]) (.int .i64 0)).run Try.prog w = .ok (.slice A2 n2 c2) w := fun w => by kernel_rfl
  have idx1 : ∀ w : World, (Instr.index 97 (.agg #[.slice A2 n2 c2, .slice A3 n3 c3]) (.int .i64 1)).run Try.prog w = .ok (.slice A3 n3 c3) w := fun w => by kernel_rfl
  have HI0 := Lib.hid idx0; have HI1 := Lib.hid idx1; clear idx0 idx1
  have hne6 : ¬ LenOk rows srcs dsts → E = 6 := fun h => by rw [← HE.out]; unfold fitsE; rw [if_neg h]
  have H6 := Lib.hid hne6; clear hne6
  have m0 := (HB.out _ HP.out).cell (i := 0) rfl
  by_cases h13 : n1 = n3
  · subst h13
    go_enter Try.func33, Try.ntmps33
    go_wp2_with ((with_reducible refine at_slot (N := 9) rfl ?_); refine box_law rfl _ _ #[.int .i64 f, .int .i64 t] rfl rfl S0.out ?_; intro sb w1 h1; have m1 := ((HB.out.keep h1 (by simp)) _ HP.out).cell (i := 0) rfl; clear m0; (try simp only [World.size_alloc, List.nil_append, List.cons_append, List.append_eq] at h1); have S1 := Lib.hid h1; clear h1 S0)
    clear m1
    go_loop [35] (fun vi => ∃ i : Nat, i ≤ n1 ∧ vi = .int .i64 i ∧ ∀ j, j < i → (rows.getD j []).length = n2) (fun vi => n1 - (intOf vi).toNat)
    case atStart => exact ⟨0, by omega, rfl, fun j hj => by omega⟩
    case round =>
      obtain ⟨i, hi, rfl, hall⟩ := hrel
      have HALL := Lib.hid hall; clear hall
      by_cases hlt : i < n1
      · obtain ⟨b4, o4, B4, d4, e4, x4, g4, r4, _⟩ := (S1.out.extL HR.out).at (i := i) (by rw [L1.out]; exact hlt)
        subst e4
        have HMEM : Hid (rows.getD i [] ∈ rows) := Lib.hid (by
          rw [List.getD_eq_getElem?_getD, List.getElem?_eq_getElem (by rw [L1.out]; exact hlt), Option.getD_some]; exact List.getElem_mem _)
        obtain ⟨q, hq⟩ : ∃ q, Hid ((rows.getD i []).length = q) := ⟨_, Lib.hid rfl⟩
        rw [hq.out] at x4
        clear r4 g4
        have i1 : (i : Int) < (n1 : Int) := by omega
        by_cases hqn : q = n2
        · subst hqn
          go_wp2_with fail
          clear x4
          go_round
          case rel => exact ⟨i + 1, by omega, by go_num, fun j hj => by
            rcases Nat.lt_or_ge j i with h | h
            · exact HALL.out j h
            · obtain rfl : j = i := by omega
              exact hq.out⟩
          case measure => simp [intOf]; omega
        · have q1 : (q == n2) = false := by simpa using hqn
          have q2 : (((q : Nat) : Int) != ((n2 : Nat) : Int)) = true := by rw [bne_iff_ne]; omega
          have q3 : (q != n2) = true := by rw [bne_iff_ne]; exact hqn
          have HQ : Hid (E = 6) := Lib.hid (H6.out fun h => hqn (by rw [← hq.out, ← L2.out]; exact h.2.1 _ HMEM.out))
          clear hqn
          go_wp2_with fail
          go_ret
          have hq := HQ.out
          subst hq
          exact ⟨rfl, S1.out.nil⟩
      · obtain rfl : i = n1 := by omega
        have HROW : Hid (∀ r ∈ rows, r.length = srcs.length) := Lib.hid (fun r hr => by
          obtain ⟨k, hk, rfl⟩ := List.getElem_of_mem hr
          have := HALL.out k (by rw [← L1.out]; exact hk)
          rw [L2.out, ← this]; simp [hk])
        clear hlt
        go_wp2_with fail
        clear hi
        obtain ⟨n1, rfl⟩ : ∃ n1, n1 = i := ⟨_, rfl⟩
        go_loop [13, 48] (fun vl vj => ∃ j : Nat, j ≤ 2 ∧ vj = .int .i64 j ∧ vl = .int .i64 (lenX (cat srcs dsts j)) ∧ Same (cat srcs dsts j)) (fun _ vj => 2 - (intOf vj).toNat)
        case atStart => exact ⟨0, by omega, rfl, by simp [cat, lenX], Same.nil⟩
        case round =>
          obtain ⟨k, hk, rfl, rfl, hsame⟩ := hrel
          by_cases hk2 : k < 2
          · obtain ⟨Y, AY, nY, cY, hidx, hRY, hlY, hFY, hcat, R, hR⟩ : ∃ (Y : List (List Nat)) (AY : Option Addr) (nY cY : Nat), (∀ w : World, (Instr.index 97 (.agg #[.slice A2 n2 c2, .slice A3 n1 c3]) (.int .i64 (k : Int))).run Try.prog w = .ok (.slice AY nY cY) w) ∧ RdL w [] AY Y ∧ Y.length = nY ∧ Fit Y ∧ cat srcs dsts (k + 1) = cat srcs dsts k ++ Y ∧ ∃ R, srcs ++ dsts = cat srcs dsts (k + 1) ++ R := by
              rcases k with _ | k
              · exact ⟨srcs, A2, n2, c2, HI0.out, HS.out, L2.out, F2.out, rfl, dsts, rfl⟩
              · obtain rfl : k = 0 := by omega
                exact ⟨dsts, A3, n1, c3, HI1.out, HD.out, L3.out, F3.out, rfl, [], by simp [cat]⟩
            have LY := Lib.hid hlY; have HRY := Lib.hid hRY; have HCAT := Lib.hid hcat; have HRR := Lib.hid hR
            have bY : nY ≤ 140737488351232 := by have := hFY.1; rw [← hlY]; omega
            clear hRY hlY hFY hcat hR
            obtain ⟨Z, hZ⟩ : ∃ Z, Hid (cat srcs dsts k = Z) := ⟨_, Lib.hid rfl⟩
            rw [hZ.out] at hsame HCAT ⊢
            have HSM := Lib.hid hsame; clear hsame
            obtain ⟨v0, hv0⟩ : ∃ v0, Hid (lenX Z = v0) := ⟨_, Lib.hid rfl⟩
            rw [hv0.out]
            have k2 : (k : Int) < 2 := by omega
            go_wp2_with fail
            clear hidx
            go_loop [13, 53] (fun vl vj => ∃ i : Nat, i ≤ nY ∧ vj = .int .i64 i ∧ vl = .int .i64 (lenX (Z ++ Y.take i)) ∧ Same (Z ++ Y.take i)) (fun _ vj => nY - (intOf vj).toNat)
            case atStart => exact ⟨0, by omega, rfl, by rw [List.take_zero, List.append_nil, hv0.out], by rw [List.take_zero, List.append_nil]; exact HSM.out⟩
            case round =>
              obtain ⟨i, hi, rfl, rfl, hsame⟩ := hrel
              by_cases hlt : i < nY
              · obtain ⟨b4, o4, B4, d4, e4, x4, g4, r4, _⟩ := (S1.out.extL HRY.out).at (i := i) (by rw [LY.out]; exact hlt)
                subst e4
                have HT := Lib.hid (take_snocL (L := Y) (i := i) (by rw [LY.out]; exact hlt))
                have HTD := Lib.hid (take_drop1 (Y := Y) (k := i) (by rw [LY.out]; exact hlt))
                obtain ⟨q, hq⟩ : ∃ q, Hid ((Y.getD i []).length = q) := ⟨_, Lib.hid rfl⟩
                rw [hq.out] at x4
                clear r4 g4
                generalize Y.getD i [] = l at *
                have i1 : (i : Int) < (nY : Int) := by omega
                have HTT : Hid (Z ++ Y.take (i + 1) = (Z ++ Y.take i) ++ [l]) := Lib.hid (by rw [HT.out, List.append_assoc])
                have HZY : Hid (srcs ++ dsts = (Z ++ Y.take i) ++ ([l] ++ (Y.drop (i + 1) ++ R))) := Lib.hid (by
                  rw [HRR.out, HCAT.out]
                  conv => lhs; rw [← HTD.out]
                  simp only [List.append_assoc])
                generalize Z ++ Y.take i = V at *
                have HSV := Lib.hid hsame; clear hsame
                obtain ⟨v, hv⟩ : ∃ v, Hid (lenX V = v) := ⟨_, Lib.hid rfl⟩
                rw [hv.out]
                by_cases hV : V = []
                · subst hV
                  obtain rfl : v = -1 := by rw [← hv.out]; rfl
                  have HL1 : Hid (lenX ([] ++ [l]) = (q : Int)) := Lib.hid (by rw [lenX_one, hq.out])
                  have HS1 := Lib.hid (Same.one l)
                  go_wp2_with fail
                  clear x4
                  go_round
                  case rel => exact ⟨i + 1, by omega, by go_num, by rw [HTT.out, HL1.out], by rw [HTT.out]; exact HS1.out⟩
                  case measure => simp [intOf]; omega
                · obtain ⟨u, hu⟩ : ∃ u : Nat, Hid (lenM V = u) := ⟨_, Lib.hid rfl⟩
                  obtain rfl : v = (u : Int) := by rw [← hv.out, ← hu.out]; exact lenX_of hV
                  have u0 : (0 : Int) ≤ (u : Int) := by omega
                  have u1 : decide ((u : Int) < 0) = false := by simp
                  by_cases hqu : q = u
                  · subst hqu
                    have HL1 : Hid (lenX (V ++ [l]) = (q : Int)) := Lib.hid (by rw [lenX_snoc hV, hv.out])
                    have HS1 := Lib.hid (Same.snoc (l := l) hV HSV.out (by rw [hq.out, hu.out]))
                    clear hV
                    go_wp2_with fail
                    clear x4
                    go_round
                    case rel => exact ⟨i + 1, by omega, by go_num, by rw [HTT.out, HL1.out], by rw [HTT.out]; exact HS1.out⟩
                    case measure => simp [intOf]; omega
                  · have q1 : (q == u) = false := by simpa using hqu
                    have q2 : (((q : Nat) : Int) != ((u : Nat) : Int)) = true := by rw [bne_iff_ne]; omega
                    have q3 : (q != u) = true := by rw [bne_iff_ne]; exact hqu
                    have HQ : Hid (E = 6) := Lib.hid (H6.out fun h => hqu (by
                      have h3 := h.2.2
                      rw [HZY.out] at h3
                      rw [← hq.out, ← hu.out]
                      exact Same.last hV h3))
                    clear hqu hV
                    go_wp2_with fail
                    go_ret
                    have hq := HQ.out
                    subst hq
                    exact ⟨rfl, S1.out.nil⟩
              · obtain rfl : i = nY := by omega
                have e : Y.take i = Y := List.take_of_length_le (by rw [LY.out]; exact Nat.le_refl _)
                rw [e] at hsame ⊢
                rw [← HCAT.out] at hsame ⊢
                have HSM2 := Lib.hid hsame
                clear e hlt hsame
                obtain ⟨v9, hv9⟩ : ∃ v9, Hid (lenX (cat srcs dsts (k + 1)) = v9) := ⟨_, Lib.hid rfl⟩
                rw [hv9.out]
                go_wp2_with fail
                go_round
                case rel => exact ⟨k + 1, by omega, by go_num, by rw [hv9.out], HSM2.out⟩
                case measure => simp [intOf]; omega
          · obtain rfl : k = 2 := by omega
            have HEE : Hid (E = rngE f t (lenM (srcs ++ dsts))) := Lib.hid (by
              rw [← HE.out]; unfold fitsE
              rw [if_pos ⟨by rw [L1.out, L3.out], HROW.out, hsame⟩])
            clear hsame hk2 hk
            have ce : cat srcs dsts 2 = srcs ++ dsts := rfl
            rw [ce]
            clear ce
            generalize srcs ++ dsts = V at *
            obtain ⟨v, hv⟩ : ∃ v, Hid (lenX V = v) := ⟨_, Lib.hid rfl⟩
            rw [hv.out]
            have y0 := (S1.out.blk (b := sb) (t := 32) (c := #[.int .i64 f, .int .i64 t]) mem0).cell (i := 0) rfl
            have y1 := (S1.out.blk (b := sb) (t := 32) (c := #[.int .i64 f, .int .i64 t]) mem0).cell (i := 1) rfl
            by_cases hV : V = []
            · subst hV
              obtain rfl : v = -1 := by rw [← hv.out]; rfl
              go_wp2_with fail
              refine (within_st f t 0 _).mono ?_
              rintro e w2 ⟨rfl, hh⟩
              have h2 := S1.out.call hh; clear hh S1
              try simp only [List.nil_append, List.cons_append, List.append_eq, Int.toNat_natCast] at h2
              have S2 := Lib.hid h2; clear h2
              go_wp2_with fail
              go_ret
              have hq := HEE.out
              subst hq
              exact ⟨rfl, S2.out.nil⟩
            · obtain ⟨u, hu⟩ : ∃ u : Nat, Hid (lenM V = u) := ⟨_, Lib.hid rfl⟩
              obtain rfl : v = (u : Int) := by rw [← hv.out, ← hu.out]; exact lenX_of hV
              clear hV
              go_wp2_with fail
              refine (within_st f t (u : Int) _).mono ?_
              rintro e w2 ⟨rfl, hh⟩
              have h2 := S1.out.call hh; clear hh S1
              try simp only [List.nil_append, List.cons_append, List.append_eq, Int.toNat_natCast] at h2
              have S2 := Lib.hid h2; clear h2
              go_wp2_with fail
              go_ret
              have hq := HEE.out
              rw [hu.out] at hq
              subst hq
              exact ⟨rfl, S2.out.nil⟩
  · have q1 : (n1 == n3) = false := by simpa using h13
    have q2 : (((n1 : Nat) : Int) != ((n3 : Nat) : Int)) = true := by rw [bne_iff_ne]; omega
    have q3 : (n1 != n3) = true := by rw [bne_iff_ne]; exact h13
    have HQ : Hid (E = 6) := Lib.hid (H6.out fun h => h13 (by rw [← L1.out, ← L3.out]; exact h.1))
    clear h13
    go_enter Try.func33, Try.ntmps33
    go_wp2_with ((with_reducible refine at_slot (N := 9) rfl ?_); refine box_law rfl _ _ #[.int .i64 f, .int .i64 t] rfl rfl S0.out ?_; intro sb w1 h1; have m1 := ((HB.out.keep h1 (by simp)) _ HP.out).cell (i := 0) rfl; clear m0; (try simp only [World.size_alloc, List.nil_append, List.cons_append, List.append_eq] at h1); have S1 := Lib.hid h1; clear h1 S0)
    go_ret
    have hq := HQ.out
    subst hq
    exact ⟨rfl, S1.out.nil⟩

end Go.Proofs.Ytdbfkjhdnbmpeaa.Sk
