/- Layer 7: the document's Mul and MulAdd (culletref07); printed by gen/port.py out of layer 5's. -/
import Derived.Test.YtcjcolmhhbnmgaaSw
import Derived.Deep.RegionLaw
namespace Go.Proofs.Ytcjcolmhhbnmgaa.Sl
set_option linter.unusedSimpArgs false
set_option linter.unusedVariables false
open Go Go.RowKit Go.Proofs.Ytcjcolmhhbnmgaa Go.Proofs.Ytcjcolmhhbnmgaa.Mm Go.Proofs.Ytcjcolmhhbnmgaa.Gf Go.Proofs.Ytcjcolmhhbnmgaa.Wr Go.Proofs.Ytcjcolmhhbnmgaa.St Go.Proofs.Ytcjcolmhhbnmgaa.Wd

theorem wr_at {D l : List Nat} {i : Nat} (h : l.length ≤ D.length) : (Wr.wr D 0 (l.take i)).getD i 0 = D.getD i 0 := by
  rw [List.getD_eq_getElem?_getD, wr_get _ _ _ _ (by rw [List.length_take]; omega), if_neg (by rw [List.length_take]; omega), ← List.getD_eq_getElem?_getD]

theorem wr_take {D l : List Nat} (h : l.length ≤ D.length) : (Wr.wr D 0 l).take l.length = l := by
  apply List.ext_getElem?
  intro j
  rw [List.getElem?_take]
  by_cases hj : j < l.length
  · rw [if_pos hj, wr_get _ _ _ _ (by omega), if_pos (by omega)]; rfl
  · rw [if_neg hj, List.getElem?_eq_none (by omega)]

set_option maxRecDepth 100000 in
set_option maxHeartbeats 2000000 in
theorem ref_mul_eq (c : Nat) (A1 A2 : Option Addr) (n c1 c2 : Nat) (D l : List Nat) (w : World) (hc : c < 256) (hD : D.length = n) (hl : l.length = n) (hn : n ≤ 140737488351232) (h1 : Rd w A1 D) (h2 : Rd w A2 l) (h81 : B8 D) (h82 : B8 l) :
    Calls Try.prog 38 #[.int .u8 c, .slice A1 n c1, .slice A2 n c2] w (RefR w (l.map (gm c)) 0) := by
  have HD := Lib.hid hD; have HL := Lib.hid hl; have HR1 := Lib.hid h1; have HR2 := Lib.hid h2; have H81 := Lib.hid h81; have H82 := Lib.hid h82
  clear hD hl h1 h2 h81 h82
  have S0 := Lib.hid (St.start w)
  have HVN : Hid ((l.map (gm c)).length = n) := Lib.hid (by rw [List.length_map, HL.out])
  have HV8 : Hid (B8 (l.map (gm c))) := Lib.hid (map_b8 hc)
  have HVG : Hid (∀ i, i < n → (l.map (gm c)).getD i 0 = gm c (l.getD i 0)) := Lib.hid (fun i hi => by simp [show i < l.length by rw [HL.out]; exact hi])
  obtain ⟨vs, hvs⟩ : ∃ vs, l.map (gm c) = vs := ⟨_, rfl⟩
  rw [hvs] at HVN HV8 HVG ⊢
  clear hvs
  go_enter Try.func38, Try.ntmps38
  go_wp2_with (first
    | ((with_reducible refine at_slot (N := 10) rfl ?_); refine ev rfl (bslice_run _ 5 0 _ (row .u8 []) rfl (fun _ => by kernel_rfl)) ?_; have S1 := Lib.hid (S0.out.alloc 5 (row .u8 [])); clear S0)
    | ((with_reducible refine at_slot (N := 12) rfl ?_); refine append_clone rfl _ _ rfl w.heap.size rfl S1.out A1 n c1 D rfl HD.out (S1.out.ext HR1.out) H81.out (by omega) ?_; intro b E w2 q1 q2 q3 q4 hs; have S2 := Lib.hid hs; have Q3 := Lib.hid q3; have Q4 := Lib.hid q4; clear hs q3 q4 S1))
  go_loopw [9] (fun vi wr => ∃ i : Nat, i ≤ n ∧ vi = .int .i64 i ∧ St w wr [] [bt b (Wr.wr E 0 (vs.take i))]) (fun vi _ => n - (intOf vi).toNat)
  case atStart => exact ⟨0, by omega, rfl, S2.out⟩
  case round =>
    clear S2
    obtain ⟨i, hi, rfl, hs⟩ := hrel
    have S3 := Lib.hid hs; clear hs
    by_cases hlt : i < n
    · obtain ⟨sb, so, eA, k1⟩ := (S3.out.ext HR2.out) (by rw [HL.out]; omega)
      have mx := k1 i (by rw [HL.out]; exact hlt)
      have hx := H82.out.get (i := i) (by rw [HL.out]; exact hlt)
      subst eA
      clear k1
      have my := (S3.out.blk mem0).cellRow (i := i) (by rw [wr_length]; omega)
      have fy := (S3.out.blk mem0).free (i := i)
      rw [wr_at (by rw [HVN.out]; exact q1), getD_take Q4.out (by rw [HD.out]; exact hlt)] at my
      have hy := H81.out.get (i := i) (by rw [HD.out]; exact hlt)
      have HV := Lib.hid (HVG.out i hlt)
      have HS := Lib.hid (wr_take_succ (D := E) (o := 0) (vs := vs) (i := i) (by rw [HVN.out]; exact hlt))
      generalize l.getD i 0 = x at *
      generalize D.getD i 0 = y at *
      have hgx := gm_lt x hc
      have i0 : (0 : Int) ≤ (i : Int) := by omega
      have i1 : (i : Int) < (n : Int) := by omega
      go_wp2_with fail
      refine (R2.mul_calls c x _ hc hx).mono ?_
      rintro e _ ⟨rfl, rfl⟩
      go_wp2_with fail
      clear mx my fy
      go_roundw
      case rel =>
        refine ⟨i + 1, by omega, by go_num, ?_⟩
        rw [HS.out, HV.out, Nat.zero_add]
        exact S3.out.setRow (N1 := []) i (gm c x)
      case measure => simp [intOf]; omega
    · obtain rfl : n = i := by omega
      rw [List.take_of_length_le (by rw [HVN.out]; exact Nat.le_refl _)] at S3
      go_wp2_with fail
      go_ret2
      exact ⟨_, _, _, _, HVN.out.symm, rfl, S3.out, GrowB.mkBlk (by rw [wr_length]; exact q1) (wr_length _ _ _) q2 (wr_b8 Q3.out HV8.out) (by have := wr_take (D := E) (l := vs) (by rw [HVN.out]; exact q1); rw [HVN.out] at this; exact this) HVN.out⟩

set_option maxRecDepth 100000 in
set_option maxHeartbeats 2000000 in
theorem ref_add_eq (c : Nat) (A1 A2 : Option Addr) (n c1 c2 : Nat) (D l : List Nat) (w : World) (hc : c < 256) (hD : D.length = n) (hl : l.length = n) (hn : n ≤ 140737488351232) (h1 : Rd w A1 D) (h2 : Rd w A2 l) (h81 : B8 D) (h82 : B8 l) :
    Calls Try.prog 39 #[.int .u8 c, .slice A1 n c1, .slice A2 n c2] w (RefR w (xs D (l.map (gm c))) 0) := by
  have HD := Lib.hid hD; have HL := Lib.hid hl; have HR1 := Lib.hid h1; have HR2 := Lib.hid h2; have H81 := Lib.hid h81; have H82 := Lib.hid h82
  clear hD hl h1 h2 h81 h82
  have S0 := Lib.hid (St.start w)
  have HVN : Hid ((xs D (l.map (gm c))).length = n) := Lib.hid (by rw [xs_length, HD.out])
  have HV8 : Hid (B8 (xs D (l.map (gm c)))) := Lib.hid (xs_b8 H81.out (map_b8 hc) (by rw [List.length_map, HD.out, HL.out]))
  have HVG : Hid (∀ i, i < n → (xs D (l.map (gm c))).getD i 0 = D.getD i 0 ^^^ gm c (l.getD i 0)) := Lib.hid (fun i hi => by rw [xs_get (by rw [HD.out]; exact hi)]; congr 1; simp [show i < l.length by rw [HL.out]; exact hi])
  obtain ⟨vs, hvs⟩ : ∃ vs, xs D (l.map (gm c)) = vs := ⟨_, rfl⟩
  rw [hvs] at HVN HV8 HVG ⊢
  clear hvs
  go_enter Try.func39, Try.ntmps39
  go_wp2_with (first
    | ((with_reducible refine at_slot (N := 10) rfl ?_); refine ev rfl (bslice_run _ 5 0 _ (row .u8 []) rfl (fun _ => by kernel_rfl)) ?_; have S1 := Lib.hid (S0.out.alloc 5 (row .u8 [])); clear S0)
    | ((with_reducible refine at_slot (N := 12) rfl ?_); refine append_clone rfl _ _ rfl w.heap.size rfl S1.out A1 n c1 D rfl HD.out (S1.out.ext HR1.out) H81.out (by omega) ?_; intro b E w2 q1 q2 q3 q4 hs; have S2 := Lib.hid hs; have Q3 := Lib.hid q3; have Q4 := Lib.hid q4; clear hs q3 q4 S1))
  go_loopw [9] (fun vi wr => ∃ i : Nat, i ≤ n ∧ vi = .int .i64 i ∧ St w wr [] [bt b (Wr.wr E 0 (vs.take i))]) (fun vi _ => n - (intOf vi).toNat)
  case atStart => exact ⟨0, by omega, rfl, S2.out⟩
  case round =>
    clear S2
    obtain ⟨i, hi, rfl, hs⟩ := hrel
    have S3 := Lib.hid hs; clear hs
    by_cases hlt : i < n
    · obtain ⟨sb, so, eA, k1⟩ := (S3.out.ext HR2.out) (by rw [HL.out]; omega)
      have mx := k1 i (by rw [HL.out]; exact hlt)
      have hx := H82.out.get (i := i) (by rw [HL.out]; exact hlt)
      subst eA
      clear k1
      have my := (S3.out.blk mem0).cellRow (i := i) (by rw [wr_length]; omega)
      have fy := (S3.out.blk mem0).free (i := i)
      rw [wr_at (by rw [HVN.out]; exact q1), getD_take Q4.out (by rw [HD.out]; exact hlt)] at my
      have hy := H81.out.get (i := i) (by rw [HD.out]; exact hlt)
      have HV := Lib.hid (HVG.out i hlt)
      have HS := Lib.hid (wr_take_succ (D := E) (o := 0) (vs := vs) (i := i) (by rw [HVN.out]; exact hlt))
      generalize l.getD i 0 = x at *
      generalize D.getD i 0 = y at *
      have hgx := gm_lt x hc
      have i0 : (0 : Int) ≤ (i : Int) := by omega
      have i1 : (i : Int) < (n : Int) := by omega
      have x1 : Go.bits .xor .u8 (y : Int) ((gm c x : Nat) : Int) = ((y ^^^ gm c x : Nat) : Int) := Bt.xor8 hy hgx
      go_wp2_with fail
      go_region_law ((go_simp; go_at_call 37; refine (R2.mul_calls c x _ hc hx).mono ?_; rintro e w' ⟨rfl, rfl⟩))
      all_goals
        clear x1 mx my fy
        go_wp2_with fail
        go_roundw
        case rel =>
          refine ⟨i + 1, by omega, by go_num, ?_⟩
          rw [HS.out, HV.out, Nat.zero_add]
          exact (S3.out.setRow (N1 := []) i (y ^^^ gm c x)).drew
        case measure => simp [intOf]; omega
    · obtain rfl : n = i := by omega
      rw [List.take_of_length_le (by rw [HVN.out]; exact Nat.le_refl _)] at S3
      go_wp2_with fail
      go_ret2
      exact ⟨_, _, _, _, HVN.out.symm, rfl, S3.out, GrowB.mkBlk (by rw [wr_length]; exact q1) (wr_length _ _ _) q2 (wr_b8 Q3.out HV8.out) (by have := wr_take (D := E) (l := vs) (by rw [HVN.out]; exact q1); rw [HVN.out] at this; exact this) HVN.out⟩

set_option maxRecDepth 100000 in
set_option maxHeartbeats 2000000 in
theorem ref_mul_ne (c : Int) (A1 A2 : Option Addr) (n m c1 c2 : Nat) (D : List Nat) (w : World) (hD : D.length = n) (hn : n ≤ 140737488351232) (hs : Rd w A1 D) (h8 : B8 D) (hne : n ≠ m) :
    Calls Try.prog 38 #[.int .u8 c, .slice A1 n c1, .slice A2 m c2] w (RefR w D 6) := by
  have h1 : (n == m) = false := by simpa using hne
  have h2 : (((n : Nat) : Int) != ((m : Nat) : Int)) = true := by rw [bne_iff_ne]; omega
  have h3 : (n != m) = true := by rw [bne_iff_ne]; exact hne
  have HL := Lib.hid hD; have HR := Lib.hid hs; have H8 := Lib.hid h8
  clear hne hD hs h8
  have S0 := Lib.hid (St.start w)
  go_enter Try.func38, Try.ntmps38
  go_wp2_with (first
    | ((with_reducible refine at_slot (N := 10) rfl ?_); refine ev rfl (bslice_run _ 5 0 _ (row .u8 []) rfl (fun _ => by kernel_rfl)) ?_; have S1 := Lib.hid (S0.out.alloc 5 (row .u8 [])); clear S0)
    | ((with_reducible refine at_slot (N := 12) rfl ?_); refine append_clone rfl _ _ rfl w.heap.size rfl S1.out A1 n c1 D rfl HL.out (S1.out.ext HR.out) H8.out (by omega) ?_; intro b E w2 q1 q2 q3 q4 hs; have S2 := Lib.hid hs; have Q3 := Lib.hid q3; have Q4 := Lib.hid q4; clear hs q3 q4 S1))
  go_ret2
  exact ⟨_, _, _, _, HL.out.symm, rfl, S2.out, GrowB.mkBlk q1 rfl q2 Q3.out Q4.out HL.out⟩

set_option maxRecDepth 100000 in
set_option maxHeartbeats 2000000 in
theorem ref_add_ne (c : Int) (A1 A2 : Option Addr) (n m c1 c2 : Nat) (D : List Nat) (w : World) (hD : D.length = n) (hn : n ≤ 140737488351232) (hs : Rd w A1 D) (h8 : B8 D) (hne : n ≠ m) :
    Calls Try.prog 39 #[.int .u8 c, .slice A1 n c1, .slice A2 m c2] w (RefR w D 6) := by
  have h1 : (n == m) = false := by simpa using hne
  have h2 : (((n : Nat) : Int) != ((m : Nat) : Int)) = true := by rw [bne_iff_ne]; omega
  have h3 : (n != m) = true := by rw [bne_iff_ne]; exact hne
  have HL := Lib.hid hD; have HR := Lib.hid hs; have H8 := Lib.hid h8
  clear hne hD hs h8
  have S0 := Lib.hid (St.start w)
  go_enter Try.func39, Try.ntmps39
  go_wp2_with (first
    | ((with_reducible refine at_slot (N := 10) rfl ?_); refine ev rfl (bslice_run _ 5 0 _ (row .u8 []) rfl (fun _ => by kernel_rfl)) ?_; have S1 := Lib.hid (S0.out.alloc 5 (row .u8 [])); clear S0)
    | ((with_reducible refine at_slot (N := 12) rfl ?_); refine append_clone rfl _ _ rfl w.heap.size rfl S1.out A1 n c1 D rfl HL.out (S1.out.ext HR.out) H8.out (by omega) ?_; intro b E w2 q1 q2 q3 q4 hs; have S2 := Lib.hid hs; have Q3 := Lib.hid q3; have Q4 := Lib.hid q4; clear hs q3 q4 S1))
  go_ret2
  exact ⟨_, _, _, _, HL.out.symm, rfl, S2.out, GrowB.mkBlk q1 rfl q2 Q3.out Q4.out HL.out⟩

end Go.Proofs.Ytcjcolmhhbnmgaa.Sl
