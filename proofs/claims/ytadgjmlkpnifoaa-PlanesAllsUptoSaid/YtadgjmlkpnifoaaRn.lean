/- Layer 8: the document's Mul and MulAdd (culletref08); mul and add at a place of a longer list. -/
import Derived.Test.YtadgjmlkpnifoaaRv
import Derived.Test.YtadgjmlkpnifoaaRm
import Derived.Test.YtadgjmlkpnifoaaSa
namespace Go.Proofs.Ytadgjmlkpnifoaa.Pq
set_option linter.unusedSimpArgs false
set_option linter.unusedVariables false
open Go Go.RowKit Go.Proofs.Ytadgjmlkpnifoaa Go.Proofs.Ytadgjmlkpnifoaa.Mm Go.Proofs.Ytadgjmlkpnifoaa.Gh Go.Proofs.Ytadgjmlkpnifoaa.Wr Go.Proofs.Ytadgjmlkpnifoaa.St

theorem check_ne (A1 A2 : Option Addr) (n m c1 c2 : Nat) (w : World) (h : n ≠ m) : Calls Try.prog 58 #[.slice A1 n c1, .slice A2 m c2] w fun e w' => e = .returned (.int .i64 6) ∧ w = w' := by
  have h1 : (n == m) = false := by simpa using h
  have h2 : (((n : Nat) : Int) != ((m : Nat) : Int)) = true := by rw [bne_iff_ne]; omega
  have h3 : (n != m) = true := by rw [bne_iff_ne]; exact h
  clear h
  go_enter Try.func58, Try.ntmps58
  go_wp2
  go_ret
  exact ⟨rfl, rfl⟩
theorem check_odd (A1 A2 : Option Addr) (n c1 c2 : Nat) (w : World) (h : n % 2 = 1) : Calls Try.prog 58 #[.slice A1 n c1, .slice A2 n c2] w fun e w' => e = .returned (.int .i64 8) ∧ w = w' := by
  have h1 : (n : Int) % 2 = 1 := by omega
  have h2 : Int.tmod (n : Int) 2 = 1 := by rw [Int.tmod_eq_emod_of_nonneg (by omega)]; exact h1
  go_enter Try.func58, Try.ntmps58
  go_wp2
  go_ret
  exact ⟨rfl, rfl⟩
theorem check_ok (A1 A2 : Option Addr) (n c1 c2 : Nat) (w : World) (h : n % 2 = 0) : Calls Try.prog 58 #[.slice A1 n c1, .slice A2 n c2] w fun e w' => e = .returned (.int .i64 0) ∧ w = w' := by
  have h1 : (n : Int) % 2 = 0 := by omega
  have h2 : Int.tmod (n : Int) 2 = 0 := by rw [Int.tmod_eq_emod_of_nonneg (by omega)]; exact h1
  go_enter Try.func58, Try.ntmps58
  go_wp2
  go_ret
  exact ⟨rfl, rfl⟩

theorem wr_take8 {D l : List Nat} (h : l.length ≤ D.length) : (Wr.wr D 0 l).take l.length = l := by
  apply List.ext_getElem?
  intro j
  rw [List.getElem?_take]
  by_cases hj : j < l.length
  · rw [if_pos hj, wr_get _ _ _ _ (by omega), if_pos (by omega)]; rfl
  · rw [if_neg hj, List.getElem?_eq_none (by omega)]
/-- What Mul and MulAdd of the document answer: a list of the call's own. -/
def OwnR (w : World) (l : List Nat) (f : Int) (n : Nat) (e : Ending) (w' : World) : Prop :=
  ∃ b D cp, e = .returned (.tuple #[.slice (some ⟨b, 0, none⟩) n cp, .int .i64 f]) ∧ n ≤ cp ∧ cp ≤ maxLen ∧ D.length = cp ∧ B8 D ∧ D.take n = l ∧ St w w' [] [bt b D]
theorem OwnR.ref {w : World} {l : List Nat} {f : Int} {n : Nat} {e : Ending} {w' : World} (hn : l.length = n) (h : OwnR w l f n e w') : RefR w l f e w' := by
  obtain ⟨b, D, cp, he, h1, h2, h0, h3, h4, h5⟩ := h
  exact ⟨_, _, n, _, hn.symm, he, h5, GrowB.mkBlk (by rw [h0]; exact h1) h0 h2 h3 h4 hn⟩

set_option maxRecDepth 100000 in
set_option maxHeartbeats 4000000 in
theorem rmul_own (c : Nat) (A1 A2 : Option Addr) (n c1 c2 : Nat) (D l : List Nat) (w : World) (hc : c < 65536) (hD : D.length = n) (hl : l.length = n) (h2 : n % 2 = 0) (hn : n ≤ 140737488351232) (h1 : Rd w A1 D) (hr2 : Rd w A2 l) (h81 : B8 D) (h82 : B8 l) :
    Calls Try.prog 49 #[.int .u16 (c : Int), .slice A1 n c1, .slice A2 n c2] w (OwnR w (pm c l) 0 n) := by
  have HD := Lib.hid hD; have HL := Lib.hid hl; have HR1 := Lib.hid h1; have HR2 := Lib.hid hr2; have H81 := Lib.hid h81; have H82 := Lib.hid h82; have H2 := Lib.hid h2
  clear hD hl h1 hr2 h81 h82 h2
  have S0 := Lib.hid (St.start w)
  have HVN : Hid ((pm c l).length = n) := Lib.hid (by rw [pm_length, HL.out])
  have HV8 : Hid (B8 (pm c l)) := Lib.hid (pm_b8 hc l)
  have HVE : Hid (∀ t, 2 * t + 1 < n → (pm c l).getD (2 * t) 0 = gm c (wd l t) % 256 ∧ (pm c l).getD (2 * t + 1) 0 = gm c (wd l t) / 256) := Lib.hid (fun t ht => by
    rw [pm_get (by rw [HL.out]; omega), pm_get (by rw [HL.out]; omega)]
    unfold half
    rw [if_pos (by omega), if_neg (by omega), show 2 * t / 2 = t by omega, show (2 * t + 1) / 2 = t by omega]
    exact ⟨rfl, rfl⟩)
  obtain ⟨vs, hvs⟩ : ∃ vs, pm c l = vs := ⟨_, rfl⟩
  rw [hvs] at HVN HV8 HVE ⊢
  clear hvs
  go_enter Try.func49, Try.ntmps49
  go_wp2_with (first
    | ((with_reducible refine at_slot (N := 12) rfl ?_); refine ev rfl (bslice_run _ 5 0 _ (row .u8 []) rfl (fun _ => by kernel_rfl)) ?_; have S1 := Lib.hid (S0.out.alloc 5 (row .u8 [])); clear S0)
    | ((with_reducible refine at_slot (N := 14) rfl ?_); refine append_clone rfl _ _ rfl w.heap.size rfl S1.out A1 n c1 D rfl HD.out (S1.out.ext HR1.out) H81.out (by omega) ?_; intro b E w2 q1 q2 q3 q4 hs; have S2 := Lib.hid hs; have Q3 := Lib.hid q3; have Q4 := Lib.hid q4; clear hs q3 q4 S1))
  refine (check_ok _ _ _ _ _ _ H2.out).mono ?_
  rintro e _ ⟨rfl, rfl⟩
  go_wp2_with fail
  go_loopw [10] (fun vi wr => ∃ t : Nat, 2 * t ≤ n ∧ vi = .int .i64 t ∧ St w wr [] [bt b (Wr.wr E 0 (vs.take (2 * t)))]) (fun vi _ => n - (intOf vi).toNat)
  case atStart => exact ⟨0, by omega, rfl, S2.out⟩
  case round =>
    clear S2
    obtain ⟨t, ht, rfl, hs⟩ := hrel
    have S3 := Lib.hid hs; clear hs
    by_cases hlt : 2 * t < n
    · have ht1 : 2 * t + 1 < n := by have := H2.out; omega
      have WC := Lib.hid (word_r (cp := c2) wr HL.out (S3.out.ext HR2.out) H82.out ht1 hn)
      have hx := wd_lt H82.out t
      have HV := Lib.hid (HVE.out t ht1)
      obtain ⟨x, HX⟩ : ∃ x, Hid (wd l t = x) := ⟨_, Lib.hid rfl⟩
      rw [HX.out] at WC hx HV
      have hp := gm_lt x hc
      have MC : Hid (∀ W : World, Calls Try.prog 44 #[.int .u16 (c : Int), .int .u16 (x : Int)] W fun e w' => e = .returned (.int .u16 ((gm c x : Nat) : Int)) ∧ W = w') := Lib.hid (fun W => rmul_calls c x W hc hx)
      obtain ⟨p, HP⟩ : ∃ p, Hid (gm c x = p) := ⟨_, Lib.hid rfl⟩
      rw [HP.out] at HV hp MC
      have HS1 := Lib.hid (wr_take_succ (D := E) (o := 0) (vs := vs) (i := 2 * t) (by rw [HVN.out]; omega))
      have HS2 := Lib.hid (wr_take_succ (D := E) (o := 0) (vs := vs) (i := 2 * t + 1) (by rw [HVN.out]; omega))
      have i0 : (0 : Int) ≤ (t : Int) := by omega
      have i1 : 2 * (t : Int) < (n : Int) := by omega
      have i2 : 2 * (t : Int) + 1 < (n : Int) := by omega
      have i3 : (2 * (t : Int)).toNat = 2 * t := by omega
      have i4 : (2 * (t : Int) + 1).toNat = 2 * t + 1 := by omega
      have p1 : ((p : Int) % 256) % 256 = ((p % 256 : Nat) : Int) := by omega
      have p2 : Int.tmod (p : Int) 256 = ((p % 256 : Nat) : Int) := by rw [Int.tmod_eq_emod_of_nonneg (by omega)]; omega
      have p3 : Int.tdiv (p : Int) 256 = ((p / 256 : Nat) : Int) := by rw [Int.tdiv_eq_ediv_of_nonneg (by omega)]; omega
      have hq1 : p % 256 < 256 := Nat.mod_lt _ (by decide)
      have hq2 : p / 256 < 256 := by omega
      obtain ⟨y, HY⟩ : ∃ y, Hid (p % 256 = y) := ⟨_, Lib.hid rfl⟩
      obtain ⟨z, HZ⟩ : ∃ z, Hid (p / 256 = z) := ⟨_, Lib.hid rfl⟩
      rw [HY.out] at p1 p2 hq1 HV
      rw [HZ.out] at p3 hq2 HV
      have w1 : IntKind.u8.wrap (y : Int) = (y : Int) := Bt.wu8 hq1
      have w2 : IntKind.u8.wrap (z : Int) = (z : Int) := Bt.wu8 hq2
      have w3 : IntKind.u16.wrap (z : Int) = (z : Int) := Bt.wu16 (by omega)
      have w4 : (p : Int) % 256 = (y : Int) := by rw [← HY.out]; omega
      have w5 : (p : Int) / 256 = (z : Int) := by rw [← HZ.out]; omega
      go_wp2_with fail
      refine (WC.out).mono ?_
      rintro e _ ⟨rfl, n4, rfl⟩
      have h4 := S3.out.drewN (n := n4); clear S3
      have S4 := Lib.hid h4; clear h4
      have my := (S4.out.blk mem0).cellRow (i := 2 * t) (by rw [wr_length]; omega)
      have fy := (S4.out.blk mem0).free (i := 2 * t)
      have mz := (S4.out.blk mem0).cellRow (i := 2 * t + 1) (by rw [wr_length]; omega)
      have fz := (S4.out.blk mem0).free (i := 2 * t + 1)
      obtain ⟨y0, HY0⟩ : ∃ y0, Hid ((Wr.wr E 0 (vs.take (2 * t))).getD (2 * t) 0 = y0) := ⟨_, Lib.hid rfl⟩
      obtain ⟨z0, HZ0⟩ : ∃ z0, Hid ((Wr.wr E 0 (vs.take (2 * t))).getD (2 * t + 1) 0 = z0) := ⟨_, Lib.hid rfl⟩
      rw [HY0.out] at my
      rw [HZ0.out] at mz
      go_wp2_with fail
      refine (MC.out _).mono ?_
      rintro e _ ⟨rfl, rfl⟩
      go_wp2_with fail
      clear my fy mz fz p1 p2 p3 w1 w2 w3 w4 w5
      refine ⟨⟨t + 1, by omega, by simp, ?_⟩, ?_⟩
      · rw [show 2 * (t + 1) = 2 * t + 1 + 1 by omega, HS2.out, HS1.out, HV.out.1, HV.out.2, Nat.zero_add, Nat.zero_add]
        exact (S4.out.setRow (N1 := []) (2 * t) y).setRow (N1 := []) (2 * t + 1) z
      · simp [intOf]; omega
    · obtain rfl : n = 2 * t := by omega
      rw [List.take_of_length_le (by rw [HVN.out]; exact Nat.le_refl _)] at S3
      go_wp2_with fail
      go_ret2
      exact ⟨_, _, _, rfl, q1, q2, wr_length _ _ _, wr_b8 Q3.out HV8.out, by have := wr_take8 (D := E) (l := vs) (by rw [HVN.out]; exact q1); rw [HVN.out] at this; exact this, S3.out⟩

theorem list_clone {w : World} {n : Nat} {l : List Nat} {f : Int} {e : Ending} {w' : World} (hn : l.length = n) (h : OwnR w l f n e w') : RefR w l f e w' := h.ref hn

set_option maxRecDepth 100000 in
set_option maxHeartbeats 2000000 in
theorem rmul_ne (c : Int) (A1 A2 : Option Addr) (n m c1 c2 : Nat) (D : List Nat) (w : World) (hD : D.length = n) (hn : n ≤ 140737488351232) (hs : Rd w A1 D) (h8 : B8 D) (hne : n ≠ m) :
    Calls Try.prog 49 #[.int .u16 c, .slice A1 n c1, .slice A2 m c2] w (OwnR w D 6 n) := by
  have HL := Lib.hid hD; have HR := Lib.hid hs; have H8 := Lib.hid h8; have HE := Lib.hid hne
  clear hne hD hs h8
  have S0 := Lib.hid (St.start w)
  go_enter Try.func49, Try.ntmps49
  go_wp2_with (first
    | ((with_reducible refine at_slot (N := 12) rfl ?_); refine ev rfl (bslice_run _ 5 0 _ (row .u8 []) rfl (fun _ => by kernel_rfl)) ?_; have S1 := Lib.hid (S0.out.alloc 5 (row .u8 [])); clear S0)
    | ((with_reducible refine at_slot (N := 14) rfl ?_); refine append_clone rfl _ _ rfl w.heap.size rfl S1.out A1 n c1 D rfl HL.out (S1.out.ext HR.out) H8.out (by omega) ?_; intro b E w2 q1 q2 q3 q4 hs; have S2 := Lib.hid hs; have Q3 := Lib.hid q3; have Q4 := Lib.hid q4; clear hs q3 q4 S1))
  refine (check_ne _ _ _ _ _ _ _ HE.out).mono ?_
  rintro e _ ⟨rfl, rfl⟩
  go_wp2_with fail
  go_ret2
  exact ⟨_, _, _, rfl, q1, q2, rfl, Q3.out, Q4.out, S2.out⟩
set_option maxRecDepth 100000 in
set_option maxHeartbeats 2000000 in
theorem rmul_odd (c : Int) (A1 A2 : Option Addr) (n c1 c2 : Nat) (D : List Nat) (w : World) (hD : D.length = n) (hn : n ≤ 140737488351232) (hs : Rd w A1 D) (h8 : B8 D) (ho : n % 2 = 1) :
    Calls Try.prog 49 #[.int .u16 c, .slice A1 n c1, .slice A2 n c2] w (OwnR w D 8 n) := by
  have HL := Lib.hid hD; have HR := Lib.hid hs; have H8 := Lib.hid h8; have HE := Lib.hid ho
  clear ho hD hs h8
  have S0 := Lib.hid (St.start w)
  go_enter Try.func49, Try.ntmps49
  go_wp2_with (first
    | ((with_reducible refine at_slot (N := 12) rfl ?_); refine ev rfl (bslice_run _ 5 0 _ (row .u8 []) rfl (fun _ => by kernel_rfl)) ?_; have S1 := Lib.hid (S0.out.alloc 5 (row .u8 [])); clear S0)
    | ((with_reducible refine at_slot (N := 14) rfl ?_); refine append_clone rfl _ _ rfl w.heap.size rfl S1.out A1 n c1 D rfl HL.out (S1.out.ext HR.out) H8.out (by omega) ?_; intro b E w2 q1 q2 q3 q4 hs; have S2 := Lib.hid hs; have Q3 := Lib.hid q3; have Q4 := Lib.hid q4; clear hs q3 q4 S1))
  refine (check_odd _ _ _ _ _ _ HE.out).mono ?_
  rintro e _ ⟨rfl, rfl⟩
  go_wp2_with fail
  go_ret2
  exact ⟨_, _, _, rfl, q1, q2, rfl, Q3.out, Q4.out, S2.out⟩

set_option maxRecDepth 100000 in
set_option maxHeartbeats 2000000 in
theorem radd_bad {f c : Int} {A1 A2 : Option Addr} {n m c1 c2 : Nat} {D : List Nat} {w : World} (hf : f ≠ 0) (h : Calls Try.prog 49 #[.int .u16 c, .slice A1 n c1, .slice A2 m c2] w (OwnR w D f n)) :
    Calls Try.prog 50 #[.int .u16 c, .slice A1 n c1, .slice A2 m c2] w (OwnR w D f n) := by
  have H := Lib.hid h
  have hf2 : (f != 0) = true := by rw [bne_iff_ne]; exact hf
  have hf3 : (f == 0) = false := by simpa using hf
  clear h hf
  go_enter Try.func50, Try.ntmps50
  go_wp2_with fail
  refine H.out.mono ?_
  rintro e w2 ⟨b, E, cq, rfl, q1, q2, q5, q3, q4, hs⟩
  have S2 := Lib.hid hs; have Q3 := Lib.hid q3; have Q4 := Lib.hid q4; have Q5 := Lib.hid q5
  clear hs q3 q4 q5
  go_wp2_with fail
  go_ret2
  exact ⟨_, _, _, rfl, q1, q2, Q5.out, Q3.out, Q4.out, S2.out⟩

set_option maxRecDepth 100000 in
set_option maxHeartbeats 4000000 in
theorem radd_own (c : Nat) (A1 A2 : Option Addr) (n c1 c2 : Nat) (D l : List Nat) (w : World) (hc : c < 65536) (hD : D.length = n) (hl : l.length = n) (h2 : n % 2 = 0) (hn : n ≤ 140737488351232) (h1 : Rd w A1 D) (hr2 : Rd w A2 l) (h81 : B8 D) (h82 : B8 l) :
    Calls Try.prog 50 #[.int .u16 (c : Int), .slice A1 n c1, .slice A2 n c2] w (OwnR w (xs D (pm c l)) 0 n) := by
  have HC := Lib.hid (rmul_own c A1 A2 n c1 c2 D l w hc hD hl h2 hn h1 hr2 h81 h82)
  have HD := Lib.hid hD; have HR1 := Lib.hid h1; have H81 := Lib.hid h81
  have HVN : Hid ((xs D (pm c l)).length = n) := Lib.hid (by rw [xs_length, pm_length, hl])
  have HPN : Hid ((pm c l).length = n) := Lib.hid (by rw [pm_length, hl])
  have HP8 : Hid (B8 (pm c l)) := Lib.hid (pm_b8 hc l)
  have HV8 : Hid (B8 (xs D (pm c l))) := Lib.hid (xs_b8 h81 (pm_b8 hc l))
  have HVG : Hid (∀ i, i < n → (xs D (pm c l)).getD i 0 = (pm c l).getD i 0 ^^^ D.getD i 0) := Lib.hid (fun i hi => by rw [xs_get (by rw [pm_length, hl]; exact hi), Nat.xor_comm])
  clear hD hl h2 h1 hr2 h81 h82
  obtain ⟨vs, hvs⟩ : ∃ vs, xs D (pm c l) = vs := ⟨_, rfl⟩
  rw [hvs] at HVN HV8 HVG ⊢
  clear hvs
  obtain ⟨ps, hps⟩ : ∃ ps, pm c l = ps := ⟨_, rfl⟩
  rw [hps] at HC HPN HP8 HVG
  clear hps
  go_enter Try.func50, Try.ntmps50
  go_wp2_with fail
  refine HC.out.mono ?_
  rintro e w2 ⟨b, E, cq, rfl, q1, q2, q5, q3, q4, hs⟩
  have S2 := Lib.hid hs; have Q3 := Lib.hid q3; have Q4 := Lib.hid q4; have Q5 := Lib.hid q5
  clear hs q3 q4 q5
  go_wp2_with fail
  go_loopw [10] (fun vi wr => ∃ i : Nat, i ≤ n ∧ vi = .int .i64 i ∧ St w wr [] [bt b (Wr.wr E 0 (vs.take i))]) (fun vi _ => n - (intOf vi).toNat)
  case atStart => exact ⟨0, by omega, rfl, S2.out⟩
  case round =>
    clear S2
    obtain ⟨i, hi, rfl, hs⟩ := hrel
    have S3 := Lib.hid hs; clear hs
    by_cases hlt : i < n
    · obtain ⟨sb, so, eA, k1⟩ := (S3.out.ext HR1.out) (by rw [HD.out]; omega)
      have mx := k1 i (by rw [HD.out]; exact hlt)
      have hx := H81.out.get (i := i) (by rw [HD.out]; exact hlt)
      subst eA
      clear k1
      have my := (S3.out.blk mem0).cellRow (i := i) (by rw [wr_length, Q5.out]; omega)
      have fy := (S3.out.blk mem0).free (i := i)
      have e0 : (Wr.wr E 0 (vs.take i)).getD i 0 = ps.getD i 0 := by
        rw [List.getD_eq_getElem?_getD, wr_get _ _ _ _ (by rw [List.length_take, HVN.out, Q5.out]; omega), if_neg (by rw [List.length_take]; omega), ← List.getD_eq_getElem?_getD]
        exact getD_take Q4.out (by rw [HPN.out]; exact hlt)
      rw [e0] at my
      have hy := HP8.out.get (i := i) (by rw [HPN.out]; exact hlt)
      have HV := Lib.hid (HVG.out i hlt)
      have HS := Lib.hid (wr_take_succ (D := E) (o := 0) (vs := vs) (i := i) (by rw [HVN.out]; exact hlt))
      clear e0
      generalize D.getD i 0 = x at *
      generalize ps.getD i 0 = y at *
      have x1 : Go.bits .xor .u8 (y : Int) (x : Int) = ((y ^^^ x : Nat) : Int) := Bt.xor8 hy hx
      have i0 : (0 : Int) ≤ (i : Int) := by omega
      have i1 : (i : Int) < (n : Int) := by omega
      go_wp2_with fail
      go_region
      clear x1 mx my fy
      go_wp2_with fail
      refine ⟨⟨i + 1, by omega, by simp, ?_⟩, ?_⟩
      · rw [HS.out, HV.out, Nat.zero_add]
        exact (S3.out.setRow (N1 := []) i (y ^^^ x)).drew
      · simp [intOf]; omega
    · obtain rfl : n = i := by omega
      rw [List.take_of_length_le (by rw [HVN.out]; exact Nat.le_refl _)] at S3
      go_wp2_with fail
      go_ret2
      exact ⟨_, _, _, rfl, q1, q2, by rw [wr_length]; exact Q5.out, wr_b8 Q3.out HV8.out, by have := wr_take8 (D := E) (l := vs) (by rw [HVN.out, Q5.out]; exact q1); rw [HVN.out] at this; exact this, S3.out⟩

/-- A list that lies in another, the product written over it. -/
theorem mul_off8 {p : Addr} {c : Int} {bd od n cd : Nat} {A : Option Addr} {cs : Nat} {X D l : List Nat} {w : World} (hc0 : 0 ≤ c) (hc : c < 65536) (hd : Bytes w bd (Wr.wr X od D)) (hD : od + n ≤ X.length) (hl : l.length = n) (h2 : n % 2 = 0) (h8 : B8 l) (hnm : n ≤ 281474976710656)
    (hs : Srcs w bd od A (Wr.wr X od D) l) :
    Calls Try.prog 13 #[.pointer (some p), .int .u16 c, .slice (some ⟨bd, od, none⟩) n cd, .slice A n cs] w fun e w' => e = .returned (.int .i64 0) ∧ St w w' [bt bd (Wr.wr (Wr.wr X od D) od (pm c.toNat l))] [] := by
  obtain ⟨c, rfl⟩ := Int.eq_ofNat_of_zero_le hc0
  exact mul_at (by omega) hd (by rw [wr_length]; exact hD) hl h2 h8 hnm hs
theorem add_off8 {p : Addr} {c : Int} {bd od n cd : Nat} {A : Option Addr} {cs : Nat} {X D l : List Nat} {w : World} (hc0 : 0 ≤ c) (hc : c < 65536) (hd : Bytes w bd (Wr.wr X od D)) (hD : od + n ≤ X.length) (hDl : D.length = n) (hl : l.length = n) (h2 : n % 2 = 0) (h8 : B8 l) (hX8 : B8 (Wr.wr X od D)) (hnm : n ≤ 281474976710656)
    (hs : Srcs w bd od A (Wr.wr X od D) l) :
    Calls Try.prog 14 #[.pointer (some p), .int .u16 c, .slice (some ⟨bd, od, none⟩) n cd, .slice A n cs] w fun e w' => e = .returned (.int .i64 0) ∧ St w w' [bt bd (Wr.wr (Wr.wr X od D) od (xs D (pm c.toNat l)))] [] := by
  obtain ⟨c, rfl⟩ := Int.eq_ofNat_of_zero_le hc0
  refine (add_at (by omega) hd (by rw [wr_length]; exact hD) hl h2 h8 hX8 hnm hs).mono fun e w' ⟨he, hm⟩ => ⟨he, ?_⟩
  have e1 : xl od (Wr.wr X od D) (pm (c : Int).toNat l) = xs D (pm (c : Int).toNat l) := by
    unfold xs xl
    apply List.map_congr_left
    intro i hi
    have hi' : i < n := by have := List.mem_range.1 hi; rw [pm_length, hl] at this; exact this
    rw [List.getD_eq_getElem?_getD, wr_get _ _ _ _ (by omega), if_pos (by omega), show od + i - od = i from by omega, ← List.getD_eq_getElem?_getD, Nat.zero_add]
  rw [Int.toNat_natCast] at e1 ⊢
  rw [e1] at hm
  exact hm
/-- The source that is the target's own piece. -/
theorem Srcs.piece {w : World} {bd od : Nat} {X l : List Nat} (h : od + l.length ≤ X.length) : Srcs w bd od (some ⟨bd, od, none⟩) (Wr.wr X od l) l := Srcs.own (fun k hk => by
  rw [List.getD_eq_getElem?_getD, wr_get _ _ _ _ h, if_pos (by omega), show od + k - od = k from by omega, ← List.getD_eq_getElem?_getD])

end Go.Proofs.Ytadgjmlkpnifoaa.Pq
