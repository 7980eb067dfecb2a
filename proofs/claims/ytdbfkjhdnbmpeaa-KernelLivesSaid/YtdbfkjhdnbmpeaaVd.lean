/- Layer 9: the document's Spread (culletref09); printed by gen/mk_vd.py. -/
import Derived.Test.YtdbfkjhdnbmpeaaKn
import Derived.Test.YtdbfkjhdnbmpeaaR2
import Derived.Deep.RegionLaw

namespace Go.Proofs.Ytdbfkjhdnbmpeaa.Sk
set_option linter.unusedSimpArgs false
set_option linter.unusedVariables false
open Go Go.RowKit Go.Proofs.Ytdbfkjhdnbmpeaa Go.Proofs.Ytdbfkjhdnbmpeaa.Mm Go.Proofs.Ytdbfkjhdnbmpeaa.Gf Go.Proofs.Ytdbfkjhdnbmpeaa.Wr Go.Proofs.Ytdbfkjhdnbmpeaa.Nb Go.Proofs.Ytdbfkjhdnbmpeaa.St

theorem smk_256 {row : List Nat} {srcs : List (List Nat)} {t : Nat} (h8 : B8 row) : ∀ i, smk row srcs t i < 256
  | 0 => by simp [smk]
  | i + 1 => by
    rw [smk]
    exact Nat.xor_lt_two_pow (n := 8) (smk_256 h8 i) (gm_lt _ (get_lt h8 i))

set_option maxRecDepth 100000 in
set_option maxHeartbeats 2000000 in
theorem dsum_st {A1 A2 : Option Addr} {k m c1 c2 t : Nat} {row : List Nat} {srcs : List (List Nat)} {w : World} (h1 : row.length = k) (h2 : srcs.length = m) (hkm : k ≤ m) (hk : k ≤ 140737488351232) (ht : ∀ i, i < k → t < (srcs.getD i []).length) (r1 : Rd w A1 row) (r2 : RdL w [] A2 srcs) (b1 : B8 row) (b2 : B8L srcs) :
    Calls Try.prog 47 #[.slice A1 k c1, .slice A2 m c2, .int .i64 (t : Int)] w fun e w' => e = .returned (.int .u8 ((smk row srcs t k : Nat) : Int)) ∧ ∃ n, w' = w.drewN n := by
  have H1 := Lib.hid r1; have H2 := Lib.hid r2; have L1 := Lib.hid h1; have L2 := Lib.hid h2; have B1 := Lib.hid b1; have B2 := Lib.hid b2; have HT := Lib.hid ht
  clear r1 r2 h1 h2 b1 b2 ht
  go_enter Try.func47, Try.ntmps47
  go_wp2
  go_loopw [7, 11] (fun vx vi wr => ∃ i : Nat, i ≤ k ∧ vi = .int .i64 i ∧ vx = .int .u8 ((smk row srcs t i : Nat) : Int) ∧ ∃ n, wr = w.drewN n) (fun _ vi _ => k - (intOf vi).toNat)
  case atStart => exact ⟨0, by omega, rfl, rfl, 0, rfl⟩
  case round =>
    obtain ⟨i, hi, rfl, rfl, hw⟩ := hrel
    have HW := Lib.hid hw; clear hw
    by_cases hlt : i < k
    · have R1 : Rd wr A1 row := by obtain ⟨n, e⟩ := HW.out; rw [e]; exact H1.out
      have R2 : RdL wr [] A2 srcs := by obtain ⟨n, e⟩ := HW.out; rw [e]; exact H2.out
      obtain ⟨b1, o1, e1, k1⟩ := R1 (by rw [L1.out]; omega)
      have x1 := k1 i (by rw [L1.out]; exact hlt)
      obtain ⟨b2, o2, B, d2, e2, x2, g2, r2, _⟩ := R2.at (i := i) (by rw [L2.out]; omega)
      have hti := HT.out i hlt
      obtain ⟨b3, o3, e3, k3⟩ := r2 (by omega)
      have x3 := k3 t hti
      have ha := B1.out.get (i := i) (by rw [L1.out]; exact hlt)
      have hy := (B2.out.get i).get (i := t) hti
      have hs := smk_256 (srcs := srcs) (t := t) B1.out i
      have HS : Hid (smk row srcs t (i + 1) = smk row srcs t i ^^^ gm (row.getD i 0) ((srcs.getD i []).getD t 0)) := Lib.hid rfl
      subst e1 e2 e3
      clear k1 k3 r2 R1 R2 g2
      obtain ⟨q, hq⟩ : ∃ q, (srcs.getD i []).length = q := ⟨_, rfl⟩
      rw [hq] at x2 hti
      clear hq
      generalize (srcs.getD i []).getD t 0 = y at *
      generalize row.getD i 0 = a at *
      generalize smk row srcs t i = s at *
      have HQ : Hid (∀ m : Nat, Calls Try.prog 46 #[.int .u8 a, .int .u8 y] (wr.drewN m) fun e w' => e = .returned (.int .u8 ((gm a y : Nat) : Int)) ∧ w' = wr.drewN m) := Lib.hid (fun m => (R2.mul_calls a y _ ha hy).mono fun _ _ h => ⟨h.1, h.2.symm⟩)
      have x4 : Go.bits .xor .u8 (s : Int) ((gm a y : Nat) : Int) = ((s ^^^ gm a y : Nat) : Int) := Bt.xor8 hs (gm_lt y ha)
      have i1 : (i : Int) < (k : Int) := by omega
      have i2 : (i : Int) < (m : Int) := by omega
      have t1 : (t : Int) < (q : Int) := by omega
      clear H1 H2
      go_wp2
      go_quiet ((with_reducible exact Calls.quiet_of_same (HQ.out _)))
      go_wp2
      go_roundw
      case rel => exact ⟨i + 1, by omega, by go_num, by rw [HS.out], by obtain ⟨n, e⟩ := HW.out; exact ⟨n + nq, by rw [e, World.drewN_drewN]⟩⟩
      case measure => simp [intOf]; omega
    · obtain rfl : i = k := by omega
      clear H1 H2
      go_wp2
      go_ret
      exact ⟨rfl, HW.out⟩

theorem wr_at9 {D l : List Nat} {i : Nat} (h : l.length ≤ D.length) : (Wr.wr D 0 (l.take i)).getD i 0 = D.getD i 0 := by
  rw [List.getD_eq_getElem?_getD, Wr.wr_get _ _ _ _ (by rw [List.length_take]; omega), if_neg (by rw [List.length_take]; omega), ← List.getD_eq_getElem?_getD]
theorem wr_take9 {D l : List Nat} (h : l.length ≤ D.length) : (Wr.wr D 0 l).take l.length = l := by
  apply List.ext_getElem?
  intro j
  rw [List.getElem?_take]
  by_cases hj : j < l.length
  · rw [if_pos hj, Wr.wr_get _ _ _ _ (by omega), if_pos (by omega)]; rfl
  · rw [if_neg hj, List.getElem?_eq_none (by omega)]
/-- A list that the document answers: n numbers at the head of a block of their own. -/
def Out (n : Nat) (E l : List Nat) : Prop := n ≤ E.length ∧ E.length ≤ maxLen ∧ B8 E ∧ E.take n = l

set_option maxRecDepth 100000 in
set_option maxHeartbeats 2000000 in
theorem dmul_mul_eq {c : Nat} {A1 A2 : Option Addr} {n c1 c2 : Nat} {D l : List Nat} {w : World} (hc : c < 256) (hD : D.length = n) (hl : l.length = n) (hn : n ≤ 140737488351232) (h1 : Rd w A1 D) (h2 : Rd w A2 l) (h81 : B8 D) (h82 : B8 l) :
    Calls Try.prog 37 #[.int .u8 (c : Int), .slice A1 n c1, .slice A2 n c2, .bool false] w fun e w' => ∃ b E, e = .returned (.tuple #[.slice (some ⟨b, 0, none⟩) n E.length, .int .i64 0]) ∧ Out n E (l.map (gm c)) ∧ St w w' [] [bt b E] := by
  have HD := Lib.hid hD; have HL := Lib.hid hl; have HR1 := Lib.hid h1; have HR2 := Lib.hid h2; have H81 := Lib.hid h81; have H82 := Lib.hid h82
  clear hD hl h1 h2 h81 h82
  have S0 := Lib.hid (St.start w)
  have HVN : Hid ((l.map (gm c)).length = n) := Lib.hid (by rw [List.length_map, HL.out])
  have HV8 : Hid (B8 (l.map (gm c))) := Lib.hid (map_b8 hc)
  have HVG : Hid (∀ i, i < n → (l.map (gm c)).getD i 0 = gm c (l.getD i 0)) := Lib.hid (fun i hi => by simp [show i < l.length by rw [HL.out]; exact hi])
  obtain ⟨vs, hvs⟩ : ∃ vs, l.map (gm c) = vs := ⟨_, rfl⟩
  rw [hvs] at HVN HV8 HVG ⊢
  clear hvs
  go_enter Try.func37, Try.ntmps37
  go_wp2_with (first
    | ((with_reducible refine at_slot (N := 13) rfl ?_); refine ev rfl (bslice_run _ 5 0 _ (Mm.row .u8 []) rfl (fun _ => by kernel_rfl)) ?_; have S1 := Lib.hid (S0.out.alloc 5 (Mm.row .u8 [])); clear S0)
    | ((with_reducible refine at_slot (N := 15) rfl ?_); refine append_clone rfl _ _ rfl w.heap.size rfl S1.out A1 n c1 D rfl HD.out (S1.out.ext HR1.out) H81.out (by omega) ?_; intro b E w2 q1 q2 q3 q4 hs; have S2 := Lib.hid hs; have Q3 := Lib.hid q3; have Q4 := Lib.hid q4; clear hs q3 q4 S1))
  go_loopw [24] (fun vi wr => ∃ i : Nat, i ≤ n ∧ vi = .int .i64 i ∧ St w wr [] [bt b (Wr.wr E 0 (vs.take i))]) (fun vi _ => n - (intOf vi).toNat)
  case atStart => exact ⟨0, by omega, rfl, S2.out⟩
  case round =>
    clear S2
    obtain ⟨i, hi, rfl, hs⟩ := hrel
    have S3 := Lib.hid hs; clear hs
    by_cases hlt : i < n
    · obtain ⟨sb, so, eA, k1⟩ := (S3.out.ext HR2.out) (by rw [HL.out]; omega)
      have mx := k1 i (by rw [HL.out]; exact hlt)
      have hx := H82.out.get (i := i) (by rw [HL.out]; exact hlt)
      subst eA
      clear k1
      have my := (S3.out.blk mem0).cellRow (i := i) (by rw [wr_length]; omega)
      have fy := (S3.out.blk mem0).free (i := i)
      have HV := Lib.hid (HVG.out i hlt)
      have HS := Lib.hid (wr_take_succ (D := E) (o := 0) (vs := vs) (i := i) (by rw [HVN.out]; exact hlt))
      generalize l.getD i 0 = x at *
      have hgx := gm_lt x hc
      have i0 : (0 : Int) ≤ (i : Int) := by omega
      have i1 : (i : Int) < (n : Int) := by omega
      go_wp2_with fail
      refine (R2.mul_calls c x _ hc hx).mono ?_
      rintro e _ ⟨rfl, rfl⟩
      go_wp2_with fail
      go_roundw
      case rel =>
        refine ⟨i + 1, by omega, by go_num, ?_⟩
        rw [HS.out, HV.out, Nat.zero_add]
        exact S3.out.setRow (N1 := []) i (gm c x)
      case measure => simp [intOf]; omega
    · obtain rfl : n = i := by omega
      rw [List.take_of_length_le (by rw [HVN.out]; exact Nat.le_refl _)] at S3
      go_wp2_with fail
      go_ret2
      refine ⟨b, Wr.wr E 0 vs, (by rw [wr_length]; rfl), ⟨by rw [wr_length]; exact q1, by rw [wr_length]; exact q2, wr_b8 Q3.out HV8.out, ?_⟩, S3.out⟩
      have := wr_take9 (D := E) (l := vs) (by rw [HVN.out]; exact q1)
      rw [HVN.out] at this
      exact this

set_option maxRecDepth 100000 in
set_option maxHeartbeats 2000000 in
theorem dmul_mul_ne {c : Nat} {A1 A2 : Option Addr} {n m c1 c2 : Nat} {D l : List Nat} {w : World} (hc : c < 256) (hD : D.length = n) (hl : l.length = m) (hne : n ≠ m) (hn : n ≤ 140737488351232) (h1 : Rd w A1 D) (h2 : Rd w A2 l) (h81 : B8 D) (h82 : B8 l) :
    Calls Try.prog 37 #[.int .u8 (c : Int), .slice A1 n c1, .slice A2 m c2, .bool false] w fun e w' => ∃ b E, e = .returned (.tuple #[.slice (some ⟨b, 0, none⟩) n E.length, .int .i64 6]) ∧ Out n E (D) ∧ St w w' [] [bt b E] := by
  have HD := Lib.hid hD; have HR1 := Lib.hid h1; have H81 := Lib.hid h81
  have q1 : (n == m) = false := by simpa using hne
  have q2 : (((n : Nat) : Int) != ((m : Nat) : Int)) = true := by rw [bne_iff_ne]; omega
  have q3 : (n != m) = true := by rw [bne_iff_ne]; exact hne
  clear hD hl h1 h2 h81 h82 hc hne
  have S0 := Lib.hid (St.start w)
  go_enter Try.func37, Try.ntmps37
  go_wp2_with (first
    | ((with_reducible refine at_slot (N := 13) rfl ?_); refine ev rfl (bslice_run _ 5 0 _ (Mm.row .u8 []) rfl (fun _ => by kernel_rfl)) ?_; have S1 := Lib.hid (S0.out.alloc 5 (Mm.row .u8 [])); clear S0)
    | ((with_reducible refine at_slot (N := 15) rfl ?_); refine append_clone rfl _ _ rfl w.heap.size rfl S1.out A1 n c1 D rfl HD.out (S1.out.ext HR1.out) H81.out (by omega) ?_; intro b E w2 g1 g2 g3 g4 hs; have S2 := Lib.hid hs; have Q3 := Lib.hid g3; have Q4 := Lib.hid g4; clear hs g3 g4 S1))
  go_ret2
  exact ⟨b, E, rfl, ⟨g1, g2, Q3.out, Q4.out⟩, S2.out⟩

set_option maxRecDepth 100000 in
set_option maxHeartbeats 2000000 in
theorem dmul_add_eq {c : Nat} {A1 A2 : Option Addr} {n c1 c2 : Nat} {D l : List Nat} {w : World} (hc : c < 256) (hD : D.length = n) (hl : l.length = n) (hn : n ≤ 140737488351232) (h1 : Rd w A1 D) (h2 : Rd w A2 l) (h81 : B8 D) (h82 : B8 l) :
    Calls Try.prog 37 #[.int .u8 (c : Int), .slice A1 n c1, .slice A2 n c2, .bool true] w fun e w' => ∃ b E, e = .returned (.tuple #[.slice (some ⟨b, 0, none⟩) n E.length, .int .i64 0]) ∧ Out n E (xs D (l.map (gm c))) ∧ St w w' [] [bt b E] := by
  have HD := Lib.hid hD; have HL := Lib.hid hl; have HR1 := Lib.hid h1; have HR2 := Lib.hid h2; have H81 := Lib.hid h81; have H82 := Lib.hid h82
  clear hD hl h1 h2 h81 h82
  have S0 := Lib.hid (St.start w)
  have HVN : Hid ((xs D (l.map (gm c))).length = n) := Lib.hid (by rw [xs_length, HD.out])
  have HV8 : Hid (B8 (xs D (l.map (gm c)))) := Lib.hid (xs_b8 H81.out (map_b8 hc) (by rw [List.length_map, HD.out, HL.out]))
  have HVG : Hid (∀ i, i < n → (xs D (l.map (gm c))).getD i 0 = gm c (l.getD i 0) ^^^ D.getD i 0) := Lib.hid (fun i hi => by rw [xs_get (by rw [HD.out]; exact hi), Nat.xor_comm]; congr 1; simp [show i < l.length by rw [HL.out]; exact hi])
  obtain ⟨vs, hvs⟩ : ∃ vs, xs D (l.map (gm c)) = vs := ⟨_, rfl⟩
  rw [hvs] at HVN HV8 HVG ⊢
  clear hvs
  go_enter Try.func37, Try.ntmps37
  go_wp2_with (first
    | ((with_reducible refine at_slot (N := 13) rfl ?_); refine ev rfl (bslice_run _ 5 0 _ (Mm.row .u8 []) rfl (fun _ => by kernel_rfl)) ?_; have S1 := Lib.hid (S0.out.alloc 5 (Mm.row .u8 [])); clear S0)
    | ((with_reducible refine at_slot (N := 15) rfl ?_); refine append_clone rfl _ _ rfl w.heap.size rfl S1.out A1 n c1 D rfl HD.out (S1.out.ext HR1.out) H81.out (by omega) ?_; intro b E w2 q1 q2 q3 q4 hs; have S2 := Lib.hid hs; have Q3 := Lib.hid q3; have Q4 := Lib.hid q4; clear hs q3 q4 S1))
  go_loopw [24] (fun vi wr => ∃ i : Nat, i ≤ n ∧ vi = .int .i64 i ∧ St w wr [] [bt b (Wr.wr E 0 (vs.take i))]) (fun vi _ => n - (intOf vi).toNat)
  case atStart => exact ⟨0, by omega, rfl, S2.out⟩
  case round =>
    clear S2
    obtain ⟨i, hi, rfl, hs⟩ := hrel
    have S3 := Lib.hid hs; clear hs
    by_cases hlt : i < n
    · obtain ⟨sb, so, eA, k1⟩ := (S3.out.ext HR2.out) (by rw [HL.out]; omega)
      have mx := k1 i (by rw [HL.out]; exact hlt)
      have hx := H82.out.get (i := i) (by rw [HL.out]; exact hlt)
      subst eA
      clear k1
      have my := (S3.out.blk mem0).cellRow (i := i) (by rw [wr_length]; omega)
      have fy := (S3.out.blk mem0).free (i := i)
      obtain ⟨db, dof, eD, k2⟩ := (S3.out.ext HR1.out) (by rw [HD.out]; omega)
      have mz := k2 i (by rw [HD.out]; exact hlt)
      have hz := H81.out.get (i := i) (by rw [HD.out]; exact hlt)
      subst eD
      clear k2
      have HV := Lib.hid (HVG.out i hlt)
      have HS := Lib.hid (wr_take_succ (D := E) (o := 0) (vs := vs) (i := i) (by rw [HVN.out]; exact hlt))
      generalize l.getD i 0 = x at *
      generalize D.getD i 0 = y at *
      have hgx := gm_lt x hc
      have x1 : Go.bits .xor .u8 ((gm c x : Nat) : Int) (y : Int) = ((gm c x ^^^ y : Nat) : Int) := Bt.xor8 hgx hz
      have i0 : (0 : Int) ≤ (i : Int) := by omega
      have i1 : (i : Int) < (n : Int) := by omega
      go_wp2_with fail
      refine (R2.mul_calls c x _ hc hx).mono ?_
      rintro e _ ⟨rfl, rfl⟩
      go_wp2_with fail
      go_roundw
      case rel =>
        refine ⟨i + 1, by omega, by go_num, ?_⟩
        rw [HS.out, HV.out, Nat.zero_add]
        exact S3.out.setRow (N1 := []) i (gm c x ^^^ y)
      case measure => simp [intOf]; omega
    · obtain rfl : n = i := by omega
      rw [List.take_of_length_le (by rw [HVN.out]; exact Nat.le_refl _)] at S3
      go_wp2_with fail
      go_ret2
      refine ⟨b, Wr.wr E 0 vs, (by rw [wr_length]; rfl), ⟨by rw [wr_length]; exact q1, by rw [wr_length]; exact q2, wr_b8 Q3.out HV8.out, ?_⟩, S3.out⟩
      have := wr_take9 (D := E) (l := vs) (by rw [HVN.out]; exact q1)
      rw [HVN.out] at this
      exact this

set_option maxRecDepth 100000 in
set_option maxHeartbeats 2000000 in
theorem dmul_add_ne {c : Nat} {A1 A2 : Option Addr} {n m c1 c2 : Nat} {D l : List Nat} {w : World} (hc : c < 256) (hD : D.length = n) (hl : l.length = m) (hne : n ≠ m) (hn : n ≤ 140737488351232) (h1 : Rd w A1 D) (h2 : Rd w A2 l) (h81 : B8 D) (h82 : B8 l) :
    Calls Try.prog 37 #[.int .u8 (c : Int), .slice A1 n c1, .slice A2 m c2, .bool true] w fun e w' => ∃ b E, e = .returned (.tuple #[.slice (some ⟨b, 0, none⟩) n E.length, .int .i64 6]) ∧ Out n E (D) ∧ St w w' [] [bt b E] := by
  have HD := Lib.hid hD; have HR1 := Lib.hid h1; have H81 := Lib.hid h81
  have q1 : (n == m) = false := by simpa using hne
  have q2 : (((n : Nat) : Int) != ((m : Nat) : Int)) = true := by rw [bne_iff_ne]; omega
  have q3 : (n != m) = true := by rw [bne_iff_ne]; exact hne
  clear hD hl h1 h2 h81 h82 hc hne
  have S0 := Lib.hid (St.start w)
  go_enter Try.func37, Try.ntmps37
  go_wp2_with (first
    | ((with_reducible refine at_slot (N := 13) rfl ?_); refine ev rfl (bslice_run _ 5 0 _ (Mm.row .u8 []) rfl (fun _ => by kernel_rfl)) ?_; have S1 := Lib.hid (S0.out.alloc 5 (Mm.row .u8 [])); clear S0)
    | ((with_reducible refine at_slot (N := 15) rfl ?_); refine append_clone rfl _ _ rfl w.heap.size rfl S1.out A1 n c1 D rfl HD.out (S1.out.ext HR1.out) H81.out (by omega) ?_; intro b E w2 g1 g2 g3 g4 hs; have S2 := Lib.hid hs; have Q3 := Lib.hid g3; have Q4 := Lib.hid g4; clear hs g3 g4 S1))
  go_ret2
  exact ⟨b, E, rfl, ⟨g1, g2, Q3.out, Q4.out⟩, S2.out⟩

/-- The document's Mul. -/
theorem dmul_st {c : Nat} (add : Bool) {A1 A2 : Option Addr} {n m c1 c2 : Nat} {D l : List Nat} {w : World} (hc : c < 256) (hD : D.length = n) (hl : l.length = m) (hn : n ≤ 140737488351232) (h1 : Rd w A1 D) (h2 : Rd w A2 l) (h81 : B8 D) (h82 : B8 l) :
    Calls Try.prog 37 #[.int .u8 (c : Int), .slice A1 n c1, .slice A2 m c2, .bool add] w fun e w' => ∃ b E, e = .returned (.tuple #[.slice (some ⟨b, 0, none⟩) n E.length, .int .i64 (lenE n m)]) ∧ Out n E (if add then addD c D l else mulD c D l) ∧ St w w' [] [bt b E] := by
  unfold lenE
  by_cases hnm : n = m
  · subst hnm
    rw [if_pos rfl]
    cases add
    · have := dmul_mul_eq (c1 := c1) (c2 := c2) hc hD hl hn h1 h2 h81 h82
      simp only [Bool.false_eq_true, if_false, mulD]; rw [if_pos (by rw [hD, hl])]; exact this
    · have := dmul_add_eq (c1 := c1) (c2 := c2) hc hD hl hn h1 h2 h81 h82
      simp only [if_true, addD]; rw [if_pos (by rw [hD, hl])]; exact this
  · rw [if_neg hnm]
    cases add
    · have := dmul_mul_ne (c1 := c1) (c2 := c2) hc hD hl hnm hn h1 h2 h81 h82
      simp only [Bool.false_eq_true, if_false, mulD]; rw [if_neg (by rw [hD, hl]; exact hnm)]; exact this
    · have := dmul_add_ne (c1 := c1) (c2 := c2) hc hD hl hnm hn h1 h2 h81 h82
      simp only [if_true, addD]; rw [if_neg (by rw [hD, hl]; exact hnm)]; exact this

set_option maxRecDepth 100000 in
set_option maxHeartbeats 4000000 in
/-- The document's Dot. -/
theorem ddot_st {A1 A2 A3 : Option Addr} {k m n c1 c2 c3 : Nat} {row D : List Nat} {srcs : List (List Nat)} {w : World} (h1 : row.length = k) (h2 : srcs.length = m) (h3 : D.length = n) (hf : Fit srcs) (hk : k ≤ 140737488351232) (hn : n ≤ 140737488351232) (r1 : Rd w A1 row) (r2 : RdL w [] A2 srcs) (r3 : Rd w A3 D) (b1 : B8 row) (b2 : B8L srcs) (b3 : B8 D) :
    Calls Try.prog 38 #[.slice A1 k c1, .slice A2 m c2, .slice A3 n c3] w fun e w' => ∃ b E, e = .returned (.tuple #[.slice (some ⟨b, 0, none⟩) n E.length, .int .i64 (dotE row srcs n)]) ∧ Out n E (dotD row srcs D) ∧ St w w' [] [bt b E] := by
  have hm : m ≤ 140737488351232 := by have := hf.1; omega
  have L1 := Lib.hid h1; have L2 := Lib.hid h2; have L3 := Lib.hid h3; have R1 := Lib.hid r1; have R2 := Lib.hid r2; have R3 := Lib.hid r3; have B1 := Lib.hid b1; have B2 := Lib.hid b2; have B3 := Lib.hid b3
  have HNO : Hid (¬ DotOk row srcs n → dotE row srcs n = 6 ∧ dotD row srcs D = D) := Lib.hid (fun h => ⟨by unfold dotE; rw [if_neg h], by unfold dotD; rw [if_neg (by rw [h3]; exact h)]⟩)
  have HYES : Hid (DotOk row srcs n → dotE row srcs n = 0 ∧ dotD row srcs D = sumL row srcs 0 n) := Lib.hid (fun h => ⟨by unfold dotE; rw [if_pos h], by unfold dotD; rw [if_pos (by rw [h3]; exact h), h3]⟩)
  clear h1 h2 h3 r1 r2 r3 b1 b2 b3 hf
  obtain ⟨er, her⟩ : ∃ er, Hid (dotE row srcs n = er) := ⟨_, Lib.hid rfl⟩
  rw [her.out] at HNO HYES ⊢
  have S0 := Lib.hid (St.start w)
  go_enter Try.func38, Try.ntmps38
  by_cases hkm : k ≠ m
  · have q1 : (k == m) = false := by simpa using hkm
    have q2 : (((k : Nat) : Int) != ((m : Nat) : Int)) = true := by rw [bne_iff_ne]; omega
    have q3 : (k != m) = true := by rw [bne_iff_ne]; exact hkm
    have HQ := Lib.hid (HNO.out (fun h => hkm (by rw [← L1.out, ← L2.out]; exact h.1)))
    clear hkm
    go_wp2_with (first
      | ((with_reducible refine at_slot (N := 12) rfl ?_); refine ev rfl (bslice_run _ 5 0 _ (Mm.row .u8 []) rfl (fun _ => by kernel_rfl)) ?_; have S1 := Lib.hid (S0.out.alloc 5 (Mm.row .u8 [])); clear S0)
      | ((with_reducible refine at_slot (N := 14) rfl ?_); refine append_clone rfl _ _ rfl w.heap.size rfl S1.out A3 n c3 D rfl L3.out (S1.out.ext R3.out) B3.out (by omega) ?_; intro b E w2 g1 g2 g3 g4 hs; have S2 := Lib.hid hs; have Q3 := Lib.hid g3; have Q4 := Lib.hid g4; clear hs g3 g4 S1))
    go_ret2
    exact ⟨b, E, (by rw [HQ.out.1]; rfl), ⟨g1, g2, Q3.out, by rw [HQ.out.2]; exact Q4.out⟩, S2.out⟩
  · obtain rfl : k = m := by omega
    clear hkm
    go_wp2_with (first
      | ((with_reducible refine at_slot (N := 12) rfl ?_); refine ev rfl (bslice_run _ 5 0 _ (Mm.row .u8 []) rfl (fun _ => by kernel_rfl)) ?_; have S1 := Lib.hid (S0.out.alloc 5 (Mm.row .u8 [])); clear S0)
      | ((with_reducible refine at_slot (N := 14) rfl ?_); refine append_clone rfl _ _ rfl w.heap.size rfl S1.out A3 n c3 D rfl L3.out (S1.out.ext R3.out) B3.out (by omega) ?_; intro b E w2 g1 g2 g3 g4 hs; have S2 := Lib.hid hs; have Q3 := Lib.hid g3; have Q4 := Lib.hid g4; clear hs g3 g4 S1))
    go_loop [23] (fun vi => ∃ i : Nat, i ≤ k ∧ vi = .int .i64 i ∧ ∀ j, j < i → (srcs.getD j []).length = n) (fun vi => k - (intOf vi).toNat)
    case atStart => exact ⟨0, by omega, rfl, fun j hj => by omega⟩
    case round =>
      obtain ⟨i, hi, rfl, hall⟩ := hrel
      have HALL := Lib.hid hall; clear hall
      by_cases hlt : i < k
      · obtain ⟨b4, o4, B4, d4, e4, x4, g4, r4, _⟩ := (S2.out.extL R2.out).at (i := i) (by rw [L2.out]; exact hlt)
        subst e4
        have HMEM : Hid (srcs.getD i [] ∈ srcs) := Lib.hid (mem_getD (by rw [L2.out]; exact hlt))
        obtain ⟨q, hq⟩ : ∃ q, Hid ((srcs.getD i []).length = q) := ⟨_, Lib.hid rfl⟩
        rw [hq.out] at x4
        clear r4 g4
        have i1 : (i : Int) < (k : Int) := by omega
        by_cases hqn : q = n
        · subst hqn
          go_wp2_with fail
          clear x4
          go_round
          case rel => exact ⟨i + 1, by omega, by go_num, fun j hj => by
            rcases Nat.lt_or_ge j i with h | h
            · exact HALL.out j h
            · obtain rfl : j = i := by omega
              exact hq.out⟩
          case measure => simp [intOf]; omega
        · have q1 : (q == n) = false := by simpa using hqn
          have q2 : (((q : Nat) : Int) != ((n : Nat) : Int)) = true := by rw [bne_iff_ne]; omega
          have q3 : (q != n) = true := by rw [bne_iff_ne]; exact hqn
          have HQ := Lib.hid (HNO.out (fun h => hqn (by rw [← hq.out]; exact h.2 _ HMEM.out)))
          clear hqn
          go_wp2_with fail
          go_ret2
          exact ⟨b, E, (by rw [HQ.out.1]; rfl), ⟨g1, g2, Q3.out, by rw [HQ.out.2]; exact Q4.out⟩, S2.out⟩
      · obtain rfl : k = i := by omega
        have HOK : Hid (DotOk row srcs n) := Lib.hid ⟨by rw [L1.out, L2.out], fun r hr => by
          obtain ⟨j, hj, rfl⟩ := List.getElem_of_mem hr
          have := HALL.out j (by rw [← L2.out]; exact hj)
          rw [← this]; simp [hj]⟩
        have HQ := Lib.hid (HYES.out HOK.out)
        have HVN : Hid ((sumL row srcs 0 n).length = n) := Lib.hid (sumL_length _ _ _ _)
        have HV8 : Hid (B8 (sumL row srcs 0 n)) := Lib.hid (sumL_b8 B1.out)
        have HVG : Hid (∀ t, t < n → (sumL row srcs 0 n).getD t 0 = smk row srcs t k) := Lib.hid (fun t ht => by rw [sumL_get ht, Nat.zero_add, L1.out])
        obtain ⟨vs, hvs⟩ : ∃ vs, sumL row srcs 0 n = vs := ⟨_, rfl⟩
        rw [hvs] at HVN HV8 HVG HQ
        clear hvs hlt hi
        go_wp2_with fail
        go_loopw [36] (fun vi wr => ∃ t : Nat, t ≤ n ∧ vi = .int .i64 t ∧ St w wr [] [bt b (Wr.wr E 0 (vs.take t))]) (fun vi _ => n - (intOf vi).toNat)
        case atStart => exact ⟨0, by omega, rfl, S2.out⟩
        case round =>
          clear S2
          obtain ⟨t, ht, rfl, hs⟩ := hrel
          have S3 := Lib.hid hs; clear hs
          by_cases hlt : t < n
          · have t1 : (t : Int) < (n : Int) := by omega
            have HV := Lib.hid (HVG.out t hlt)
            have HS := Lib.hid (wr_take_succ (D := E) (o := 0) (vs := vs) (i := t) (by rw [HVN.out]; exact hlt))
            go_wp2_with fail
            refine (dsum_st L1.out L2.out (Nat.le_refl _) hk (fun j hj => by rw [HALL.out j hj]; exact hlt) (S3.out.ext R1.out) (S3.out.extL R2.out) B1.out B2.out).mono ?_
            rintro e _ ⟨rfl, n4, rfl⟩
            have h4 := S3.out.drewN (n := n4); clear S3
            have S4 := Lib.hid h4; clear h4
            have my := (S4.out.blk mem0).cellRow (i := t) (by rw [wr_length]; omega)
            have fy := (S4.out.blk mem0).free (i := t)
            go_wp2_with fail
            go_roundw
            case rel =>
              refine ⟨t + 1, by omega, by go_num, ?_⟩
              rw [HS.out, HV.out, Nat.zero_add]
              exact S4.out.setRow (N1 := []) t _
            case measure => simp [intOf]; omega
          · obtain rfl : n = t := by omega
            rw [List.take_of_length_le (by rw [HVN.out]; exact Nat.le_refl _)] at S3
            go_wp2_with fail
            go_ret2
            refine ⟨b, Wr.wr E 0 vs, (by rw [wr_length, HQ.out.1]; rfl), ⟨by rw [wr_length]; exact g1, by rw [wr_length]; exact g2, wr_b8 Q3.out HV8.out, ?_⟩, S3.out⟩
            have := wr_take9 (D := E) (l := vs) (by rw [HVN.out]; exact g1)
            rw [HVN.out] at this
            rw [HQ.out.2]; exact this

end Go.Proofs.Ytdbfkjhdnbmpeaa.Sk

namespace Go.Proofs.Ytdbfkjhdnbmpeaa.Sk
set_option linter.unusedSimpArgs false
set_option linter.unusedVariables false
open Go Go.RowKit Go.Proofs.Ytdbfkjhdnbmpeaa Go.Proofs.Ytdbfkjhdnbmpeaa.Mm Go.Proofs.Ytdbfkjhdnbmpeaa.Gf Go.Proofs.Ytdbfkjhdnbmpeaa.Wr Go.Proofs.Ytdbfkjhdnbmpeaa.Nb Go.Proofs.Ytdbfkjhdnbmpeaa.St

/-- Lists, each at the head of a block of its own: block, what the block holds, the length. -/
abbrev TT : Type := List (Nat × List Nat × Nat)
def sdT (T : TT) : List Sd := T.map fun x => ⟨some ⟨x.1, 0, none⟩, x.2.2, x.2.1.length⟩
def enT (T : TT) : List Ent := T.map fun x => bt x.1 x.2.1
def liT (T : TT) : List (List Nat) := T.map fun x => x.2.1.take x.2.2
def okT (T : TT) : Prop := ∀ x ∈ T, x.2.2 ≤ x.2.1.length ∧ x.2.1.length ≤ maxLen ∧ B8 x.2.1
def CopyT (A : Option Addr) (n c : Nat) (T : TT) (G : List Ent) : Prop := T.length = n ∧ GrowV es 39 (.slice A n c) (sdT T) G ∧ okT T
theorem CopyT.rdV {w0 w : World} {W N : List Ent} {A : Option Addr} {n c : Nat} {T : TT} {G : List Ent} (h : CopyT A n c T G) (hs : St w0 w W N) (hG : ∀ e ∈ G, e ∈ N) : RdV es w A (sdT T) := by
  have h3 := h.2.1
  unfold GrowV at h3
  have e : (sdT T).length = n := by rw [← h.1]; simp [sdT]
  rw [e] at h3
  exact (Grow.hold h3).rd hs hG
theorem CopyT.rd {w0 w : World} {N : List Ent} {A : Option Addr} {n c : Nat} {T : TT} {G : List Ent} (h : CopyT A n c T G) (hs : St w0 w [] N) (hG : ∀ e ∈ G, e ∈ N) (hE : ∀ e ∈ enT T, e ∈ N) : RdL w [] A (liT T) := by
  refine ⟨sdT T, h.rdV hs hG, Off.nil _, by simp [sdT, liT], fun i d hd => ?_⟩
  unfold sdT at hd
  rw [List.getElem?_map] at hd
  obtain ⟨x, hx, rfl⟩ := Option.map_eq_some_iff.1 hd
  have hm := List.mem_of_getElem? hx
  obtain ⟨k1, k2, k3⟩ := h.2.2 x hm
  have e : (liT T).getD i [] = x.2.1.take x.2.2 := by
    unfold liT
    rw [List.getD_eq_getElem?_getD, List.getElem?_map, hx]; rfl
  rw [e]
  have hr := (hs.rd (hE _ (List.mem_map.2 ⟨x, hm, rfl⟩))).piece 0 x.2.2
  rw [List.drop_zero] at hr
  exact ⟨by rw [List.length_take]; dsimp only; omega, k1, hr, Off.nil _⟩
theorem liT_length (T : TT) : (liT T).length = T.length := by simp [liT]
theorem sdT_length (T : TT) : (sdT T).length = T.length := by simp [sdT]

set_option maxRecDepth 100000 in
set_option maxHeartbeats 4000000 in
theorem dcopies_st {A : Option Addr} {n c : Nat} {L : List (List Nat)} {w : World} (hn : L.length = n) (hf : Fit L) (h8 : B8L L) (h : RdL w [] A L) :
    Calls Try.prog 48 #[.slice A n c] w fun e w' => ∃ A' c' T G, e = .returned (.slice A' n c') ∧ CopyT A' n c' T G ∧ liT T = L ∧ St w w' [] (G ++ enT T) := by
  have H := Lib.hid h; have HN := Lib.hid hn; have HF := Lib.hid hf; have H8 := Lib.hid h8
  have hn24 : n * 24 ≤ 140737488351232 := by rw [← hn]; exact hf.1
  have S0 := Lib.hid (St.start w)
  clear h hn hf h8
  go_enter Try.func48, Try.ntmps48
  go_wp2_with fail
  go_loopw [3, 8] (fun vo vi wr => ∃ (i : Nat) (A' : Option Addr) (c' : Nat) (T : TT) (G : List Ent), i ≤ n ∧ vi = .int .i64 i ∧ vo = .slice A' i c' ∧ CopyT A' i c' T G ∧ liT T = L.take i ∧ St w wr [] (G ++ enT T)) (fun _ vi _ => n - (intOf vi).toNat)
  case atStart => exact ⟨0, none, 0, [], [], by omega, rfl, rfl, ⟨rfl, GrowV.nil, fun x hx => by simp at hx⟩, rfl, S0.out⟩
  case round =>
    clear S0
    obtain ⟨i, A1, c1, T, G, hi, rfl, rfl, hc, hli, hs⟩ := hrel
    have S1 := Lib.hid hs; have HC := Lib.hid hc; have HLI := Lib.hid hli; clear hs hc hli
    by_cases hlt : i < n
    · obtain ⟨ba, oa, B, cb, eA, ms, hcb, rs, _⟩ := (S1.out.extL H.out).at (i := i) (by rw [HN.out]; omega)
      subst eA
      have hll := HF.out.get i
      have H8i := Lib.hid (H8.out.get i)
      have HT := Lib.hid (take_snocL (L := L) (i := i) (by rw [HN.out]; exact hlt))
      generalize L.getD i [] = l at *
      obtain ⟨ln, hln⟩ : ∃ ln, Hid (l.length = ln) := ⟨_, Lib.hid rfl⟩
      rw [hln.out] at ms hll hcb
      have RS := Lib.hid (((St.start wr).alloc 5 (Mm.row .u8 [])).ext rs); clear rs
      have HSL : Hid ((sdT T).length = i) := Lib.hid (by rw [sdT_length, HC.out.1])
      go_wp2_with (first
        | ((with_reducible refine at_slot (N := 13) rfl ?_); refine ev rfl (bslice_run _ 5 0 _ (row .u8 []) rfl (fun _ => by kernel_rfl)) ?_; have h2 := S1.out.alloc 5 (row .u8 []); (try simp only [World.size_alloc, List.nil_append, List.cons_append, List.append_eq] at h2); have S2 := Lib.hid h2; clear h2 S1)
        | ((with_reducible refine at_slot (N := 15) rfl ?_); refine append_clone rfl _ _ rfl wr.heap.size rfl S2.out B ln cb l rfl hln.out RS.out H8i.out (by omega) ?_; intro b D w3 g1 g2 g3 g4 h3; have Q3 := Lib.hid g3; have Q4 := Lib.hid g4; clear g3 g4; (try simp only [World.size_alloc, List.nil_append, List.cons_append, List.append_eq] at h3); have S3 := Lib.hid h3; clear h3 S2)
        | ((with_reducible refine at_slot (N := 16) rfl ?_); refine bslice_st rfl _ 39 1 _ (cellsV es [⟨some ⟨b, 0, none⟩, ln, D.length⟩]) rfl (fun _ => by kernel_rfl) S3.out ?_; intro sb w4 h4; (try simp only [World.size_alloc, List.nil_append, List.cons_append, List.append_eq] at h4); have S4 := Lib.hid h4; clear h4 S3)
        | ((with_reducible refine at_slot (N := 17) rfl ?_); refine append_v (enc := es) (G := G) (N := enT T ++ [bt b D]) rfl _ _ 22 rfl ⟨none, 0, 0⟩ 24 Try.underlying22 info_sl9 rfl (fun _ => rfl) (.slice A1 i c1) (sdT T) rfl ((S4.out.drop (List.sublist_cons_self _ _)).perm (cons_perm _ _ _)) HC.out.2.1 (some ⟨sb, 0, none⟩) 1 1 [⟨some ⟨b, 0, none⟩, ln, D.length⟩] rfl rfl (S4.out.rdV (t := 39) mem0) (by rw [HSL.out]; show (i + 1) * 24 ≤ _; omega) (by rw [HSL.out]; show i + 1 ≤ _; unfold maxLen; omega) ?_; intro v9 w5 G2 h5 hg hz; obtain ⟨A2, c2, rfl⟩ := hg.shape; have ez : (sdT T ++ [(⟨some ⟨b, 0, none⟩, ln, D.length⟩ : Sd)]).length = i + 1 := (by rw [List.length_append, HSL.out]; rfl); rw [ez] at hg ⊢; have HG := Lib.hid hg; clear hg hz ez; (try simp only [World.size_alloc, List.nil_append, List.cons_append, List.append_eq] at h5); have S5 := Lib.hid h5; clear h5 S4))
      refine ⟨⟨i + 1, A2, c2, T ++ [(b, D, ln)], G2, by omega, by simp, rfl, ⟨by rw [List.length_append, HC.out.1]; rfl, by unfold sdT; rw [List.map_append]; exact HG.out, fun x hx => ?_⟩, ?_, ?_⟩, ?_⟩
      · rcases List.mem_append.1 hx with hx | hx
        · exact HC.out.2.2 x hx
        · rw [List.mem_singleton.1 hx]; exact ⟨g1, g2, Q3.out⟩
      · unfold liT; rw [List.map_append, HT.out]; show liT T ++ [D.take ln] = _; rw [HLI.out, Q4.out]
      · unfold enT; rw [List.map_append]; exact S5.out
      · simp [intOf]; omega
    · obtain rfl : n = i := by omega
      have e : L.take n = L := List.take_of_length_le (by rw [HN.out]; exact Nat.le_refl _)
      rw [e] at HLI
      clear e
      go_wp2_with fail
      go_ret
      exact ⟨A1, c1, T, G, rfl, HC.out, HLI.out, S1.out⟩

set_option maxRecDepth 100000 in
set_option maxHeartbeats 4000000 in
theorem dfits_st {A1 A2 A3 : Option Addr} {n1 n2 n3 c1 c2 c3 : Nat} {rows srcs dsts : List (List Nat)} {f t : Int} {w : World} (h1 : rows.length = n1) (h2 : srcs.length = n2) (h3 : dsts.length = n3) (hf1 : Fit rows) (hf2 : Fit srcs) (hf3 : Fit dsts)
    (hr : RdL w [] A1 rows) (hs : RdL w [] A2 srcs) (hd : RdL w [] A3 dsts) :
    Calls Try.prog 51 #[.slice A1 n1 c1, .slice A2 n2 c2, .slice A3 n3 c3, .int .i64 f, .int .i64 t] w fun e w' => e = .returned (.int .i64 (fitsE rows srcs dsts f t)) ∧ w = w' := by
  have HR := Lib.hid hr; have HS := Lib.hid hs; have HD := Lib.hid hd; have L1 := Lib.hid h1; have L2 := Lib.hid h2; have L3 := Lib.hid h3
  have b1 : n1 ≤ 140737488351232 := by have := hf1.1; omega
  have b2 : n2 ≤ 140737488351232 := by have := hf2.1; omega
  have b3 : n3 ≤ 140737488351232 := by have := hf3.1; omega
  obtain ⟨E, HE⟩ : ∃ E, Hid (fitsE rows srcs dsts f t = E) := ⟨_, Lib.hid rfl⟩
  rw [HE.out]
  clear hr hs hd hf1 hf2 hf3 h1 h2 h3
  have hne6 : ¬ LenOk rows srcs dsts → E = 6 := fun h => by rw [← HE.out]; unfold fitsE; rw [if_neg h]
  have H6 := Lib.hid hne6; clear hne6
  by_cases h13 : n1 = n3
  · subst h13
    go_enter Try.func51, Try.ntmps51
    go_wp2_with fail
    go_loop [25] (fun vi => ∃ i : Nat, i ≤ n1 ∧ vi = .int .i64 i ∧ ∀ j, j < i → (rows.getD j []).length = n2) (fun vi => n1 - (intOf vi).toNat)
    case atStart => exact ⟨0, by omega, rfl, fun j hj => by omega⟩
    case round =>
      obtain ⟨i, hi, rfl, hall⟩ := hrel
      have HALL := Lib.hid hall; clear hall
      by_cases hlt : i < n1
      · obtain ⟨b4, o4, B4, d4, e4, x4, g4, r4, _⟩ := HR.out.at (i := i) (by rw [L1.out]; exact hlt)
        subst e4
        have HMEM : Hid (rows.getD i [] ∈ rows) := Lib.hid (mem_getD (by rw [L1.out]; exact hlt))
        obtain ⟨q, hq⟩ : ∃ q, Hid ((rows.getD i []).length = q) := ⟨_, Lib.hid rfl⟩
        rw [hq.out] at x4
        clear r4 g4
        have i1 : (i : Int) < (n1 : Int) := by omega
        by_cases hqn : q = n2
        · subst hqn
          go_wp2_with fail
          clear x4
          go_round
          case rel => exact ⟨i + 1, by omega, by go_num, fun j hj => by
            rcases Nat.lt_or_ge j i with h | h
            · exact HALL.out j h
            · obtain rfl : j = i := by omega
              exact hq.out⟩
          case measure => simp [intOf]; omega
        · have q1 : (q == n2) = false := by simpa using hqn
          have q2 : (((q : Nat) : Int) != ((n2 : Nat) : Int)) = true := by rw [bne_iff_ne]; omega
          have q3 : (q != n2) = true := by rw [bne_iff_ne]; exact hqn
          have HQ : Hid (E = 6) := Lib.hid (H6.out fun h => hqn (by rw [← hq.out, ← L2.out]; exact h.2.1 _ HMEM.out))
          clear hqn
          go_wp2_with fail
          go_ret
          have hq := HQ.out
          subst hq
          exact ⟨rfl, rfl⟩
      · have hin : i = n1 := by omega
        have HROW : Hid (∀ r ∈ rows, r.length = srcs.length) := Lib.hid (fun r hr => by
          obtain ⟨k, hk, rfl⟩ := List.getElem_of_mem hr
          have := HALL.out k (by rw [hin, ← L1.out]; exact hk)
          rw [L2.out, ← this]; simp [hk])
        have d0 : decide ((i : Int) < (n1 : Int)) = false := by simp; omega
        clear hlt
        go_wp2_with fail
        clear hi d0 hin
        go_loop [13, 37] (fun vl vj => ∃ j : Nat, j ≤ n2 ∧ vj = .int .i64 j ∧ vl = .int .i64 (lenX (([] : List (List Nat)) ++ srcs.take j)) ∧ Same (([] : List (List Nat)) ++ srcs.take j)) (fun _ vj => n2 - (intOf vj).toNat)
        case atStart => exact ⟨0, by omega, rfl, rfl, Same.nil⟩
        case round =>
          obtain ⟨j, hi, rfl, rfl, hsame⟩ := hrel
          by_cases hlt : j < n2
          · obtain ⟨b4, o4, B4, d4, e4, x4, g4, r4, _⟩ := HS.out.at (i := j) (by rw [L2.out]; exact hlt)
            subst e4
            have HT := Lib.hid (take_snocL (L := srcs) (i := j) (by rw [L2.out]; exact hlt))
            have HTD := Lib.hid (take_drop1 (Y := srcs) (k := j) (by rw [L2.out]; exact hlt))
            obtain ⟨q, hq⟩ : ∃ q, Hid ((srcs.getD j []).length = q) := ⟨_, Lib.hid rfl⟩
            rw [hq.out] at x4
            clear r4 g4
            generalize srcs.getD j [] = l at *
            have i1 : (j : Int) < (n2 : Int) := by omega
            have HTT : Hid (([] : List (List Nat)) ++ srcs.take (j + 1) = (([] : List (List Nat)) ++ srcs.take j) ++ [l]) := Lib.hid (by rw [HT.out, List.append_assoc])
            have HZY : Hid (srcs ++ dsts = (([] : List (List Nat)) ++ srcs.take j) ++ ([l] ++ (srcs.drop (j + 1) ++ dsts))) := Lib.hid (by
              have h := HTD.out
              have e : srcs ++ dsts = ([] : List (List Nat)) ++ (srcs ++ dsts) := by simp
              rw [e]
              conv => lhs; rw [← h]
              simp only [List.append_assoc])
            generalize ([] : List (List Nat)) ++ srcs.take j = V at *
            have HSV := Lib.hid hsame; clear hsame
            obtain ⟨v, hv⟩ : ∃ v, Hid (lenX V = v) := ⟨_, Lib.hid rfl⟩
            rw [hv.out]
            by_cases hV : V = []
            · subst hV
              obtain rfl : v = -1 := by rw [← hv.out]; rfl
              have HL1 : Hid (lenX ([] ++ [l]) = (q : Int)) := Lib.hid (by rw [lenX_one, hq.out])
              have HS1 := Lib.hid (Same.one l)
              go_wp2_with fail
              clear x4
              go_round
              case rel => exact ⟨j + 1, by omega, by go_num, by rw [HTT.out, HL1.out], by rw [HTT.out]; exact HS1.out⟩
              case measure => simp [intOf]; omega
            · obtain ⟨u, hu⟩ : ∃ u : Nat, Hid (lenM V = u) := ⟨_, Lib.hid rfl⟩
              obtain rfl : v = (u : Int) := by rw [← hv.out, ← hu.out]; exact lenX_of hV
              have u0 : (0 : Int) ≤ (u : Int) := by omega
              have u1 : decide ((u : Int) < 0) = false := by simp
              by_cases hqu : q = u
              · subst hqu
                have HL1 : Hid (lenX (V ++ [l]) = (q : Int)) := Lib.hid (by rw [lenX_snoc hV, hv.out])
                have HS1 := Lib.hid (Same.snoc (l := l) hV HSV.out (by rw [hq.out, hu.out]))
                clear hV
                go_wp2_with fail
                clear x4
                go_round
                case rel => exact ⟨j + 1, by omega, by go_num, by rw [HTT.out, HL1.out], by rw [HTT.out]; exact HS1.out⟩
                case measure => simp [intOf]; omega
              · have q1 : (q == u) = false := by simpa using hqu
                have q2 : (((q : Nat) : Int) != ((u : Nat) : Int)) = true := by rw [bne_iff_ne]; omega
                have q3 : (q != u) = true := by rw [bne_iff_ne]; exact hqu
                have HQ : Hid (E = 6) := Lib.hid (H6.out fun h => hqu (by
                  have h3 := h.2.2
                  rw [HZY.out] at h3
                  rw [← hq.out, ← hu.out]
                  exact Same.last hV h3))
                clear hqu hV
                go_wp2_with fail
                go_ret
                have hq := HQ.out
                subst hq
                exact ⟨rfl, rfl⟩
          · have hin : j = n2 := by omega
            have d0 : decide ((j : Int) < (n2 : Int)) = false := by simp; omega
            have d0' : decide (j < n2) = false := by simp; omega
            have e : srcs.take j = srcs := List.take_of_length_le (by rw [L2.out, hin]; exact Nat.le_refl _)
            rw [e] at hsame ⊢
            have HSM := Lib.hid hsame
            clear e hlt hsame hin
            rw [List.nil_append]
            rw [List.nil_append] at HSM
            obtain ⟨v9, hv9⟩ : ∃ v9, Hid (lenX srcs = v9) := ⟨_, Lib.hid rfl⟩
            rw [hv9.out]
            go_wp2_with fail
            clear d0 d0'
            go_loop [13, 54] (fun vl vj => ∃ k : Nat, k ≤ n1 ∧ vj = .int .i64 k ∧ vl = .int .i64 (lenX (srcs ++ dsts.take k)) ∧ Same (srcs ++ dsts.take k)) (fun _ vj => n1 - (intOf vj).toNat)
            case atStart => exact ⟨0, by omega, rfl, by rw [List.take_zero, List.append_nil, hv9.out], by rw [List.take_zero, List.append_nil]; exact HSM.out⟩
            case round =>
              obtain ⟨k, hi, rfl, rfl, hsame⟩ := hrel
              by_cases hlt : k < n1
              · obtain ⟨b4, o4, B4, d4, e4, x4, g4, r4, _⟩ := HD.out.at (i := k) (by rw [L3.out]; exact hlt)
                subst e4
                have HT := Lib.hid (take_snocL (L := dsts) (i := k) (by rw [L3.out]; exact hlt))
                have HTD := Lib.hid (take_drop1 (Y := dsts) (k := k) (by rw [L3.out]; exact hlt))
                obtain ⟨q, hq⟩ : ∃ q, Hid ((dsts.getD k []).length = q) := ⟨_, Lib.hid rfl⟩
                rw [hq.out] at x4
                clear r4 g4
                generalize dsts.getD k [] = l at *
                have i1 : (k : Int) < (n1 : Int) := by omega
                have HTT : Hid (srcs ++ dsts.take (k + 1) = (srcs ++ dsts.take k) ++ [l]) := Lib.hid (by rw [HT.out, List.append_assoc])
                have HZY : Hid (srcs ++ dsts = (srcs ++ dsts.take k) ++ ([l] ++ (dsts.drop (k + 1) ++ ([] : List (List Nat))))) := Lib.hid (by
                  have h := HTD.out
                  have e : srcs ++ dsts = srcs ++ (dsts ++ ([] : List (List Nat))) := by simp
                  rw [e]
                  conv => lhs; rw [← h]
                  simp only [List.append_assoc])
                generalize srcs ++ dsts.take k = V at *
                have HSV := Lib.hid hsame; clear hsame
                obtain ⟨v, hv⟩ : ∃ v, Hid (lenX V = v) := ⟨_, Lib.hid rfl⟩
                rw [hv.out]
                by_cases hV : V = []
                · subst hV
                  obtain rfl : v = -1 := by rw [← hv.out]; rfl
                  have HL1 : Hid (lenX ([] ++ [l]) = (q : Int)) := Lib.hid (by rw [lenX_one, hq.out])
                  have HS1 := Lib.hid (Same.one l)
                  go_wp2_with fail
                  clear x4
                  go_round
                  case rel => exact ⟨k + 1, by omega, by go_num, by rw [HTT.out, HL1.out], by rw [HTT.out]; exact HS1.out⟩
                  case measure => simp [intOf]; omega
                · obtain ⟨u, hu⟩ : ∃ u : Nat, Hid (lenM V = u) := ⟨_, Lib.hid rfl⟩
                  obtain rfl : v = (u : Int) := by rw [← hv.out, ← hu.out]; exact lenX_of hV
                  have u0 : (0 : Int) ≤ (u : Int) := by omega
                  have u1 : decide ((u : Int) < 0) = false := by simp
                  by_cases hqu : q = u
                  · subst hqu
                    have HL1 : Hid (lenX (V ++ [l]) = (q : Int)) := Lib.hid (by rw [lenX_snoc hV, hv.out])
                    have HS1 := Lib.hid (Same.snoc (l := l) hV HSV.out (by rw [hq.out, hu.out]))
                    clear hV
                    go_wp2_with fail
                    clear x4
                    go_round
                    case rel => exact ⟨k + 1, by omega, by go_num, by rw [HTT.out, HL1.out], by rw [HTT.out]; exact HS1.out⟩
                    case measure => simp [intOf]; omega
                  · have q1 : (q == u) = false := by simpa using hqu
                    have q2 : (((q : Nat) : Int) != ((u : Nat) : Int)) = true := by rw [bne_iff_ne]; omega
                    have q3 : (q != u) = true := by rw [bne_iff_ne]; exact hqu
                    have HQ : Hid (E = 6) := Lib.hid (H6.out fun h => hqu (by
                      have h3 := h.2.2
                      rw [HZY.out] at h3
                      rw [← hq.out, ← hu.out]
                      exact Same.last hV h3))
                    clear hqu hV
                    go_wp2_with fail
                    go_ret
                    have hq := HQ.out
                    subst hq
                    exact ⟨rfl, rfl⟩
              · have hin : k = n1 := by omega
                have d0 : decide ((k : Int) < (n1 : Int)) = false := by simp; omega
                have d0' : decide (k < n1) = false := by simp; omega
                have e : dsts.take k = dsts := List.take_of_length_le (by rw [L3.out, hin]; exact Nat.le_refl _)
                rw [e] at hsame ⊢
                have HSM := Lib.hid hsame
                clear e hlt hsame hin
                have HEE : Hid (E = rngE f t (lenM (srcs ++ dsts))) := Lib.hid (by
                  rw [← HE.out]; unfold fitsE
                  rw [if_pos ⟨by rw [L1.out, L3.out], HROW.out, HSM.out⟩])
                clear HSM
                generalize srcs ++ dsts = V at *
                obtain ⟨u, hu⟩ : ∃ u : Nat, Hid (lenM V = u) := ⟨_, Lib.hid rfl⟩
                rw [hu.out] at HEE
                have hvv : (V = [] ∧ u = 0 ∧ lenX V = -1) ∨ (lenX V = (u : Int)) := by
                  by_cases hV : V = []
                  · subst hV; exact .inl ⟨rfl, by rw [← hu.out]; rfl, rfl⟩
                  · exact .inr (by rw [← hu.out]; exact lenX_of hV)
                rcases hvv with ⟨_, hu0, hv⟩ | hv
                · rw [hv]
                  subst hu0
                  clear hv
                  by_cases h1 : f < 0
                  · have p1 : decide (f < 0) = true := by simpa using h1
                    have HQ : Hid (E = 7) := Lib.hid (by rw [HEE.out]; unfold rngE; rw [if_neg (by omega)])
                    clear h1
                    go_wp2_with fail
                    go_ret
                    have hq := HQ.out
                    subst hq
                    exact ⟨rfl, rfl⟩
                  · have p1 : decide (f < 0) = false := by simpa using h1
                    by_cases h2 : t < f
                    · have p2 : decide (t < f) = true := by simpa using h2
                      have HQ : Hid (E = 7) := Lib.hid (by rw [HEE.out]; unfold rngE; rw [if_neg (by omega)])
                      clear h1 h2
                      go_wp2_with fail
                      go_ret
                      have hq := HQ.out
                      subst hq
                      exact ⟨rfl, rfl⟩
                    · have p2 : decide (t < f) = false := by simpa using h2
                      by_cases h3 : (0 : Int) < t
                      · have p3 : decide ((0 : Int) < t) = true := by simpa using h3
                        have HQ : Hid (E = 7) := Lib.hid (by rw [HEE.out]; unfold rngE; rw [if_neg (by omega)])
                        clear h1 h2 h3
                        go_wp2_with fail
                        go_ret
                        have hq := HQ.out
                        subst hq
                        exact ⟨rfl, rfl⟩
                      · have p3 : decide ((0 : Int) < t) = false := by simpa using h3
                        have HQ : Hid (E = 0) := Lib.hid (by rw [HEE.out]; unfold rngE; rw [if_pos (by omega)])
                        clear h1 h2 h3
                        go_wp2_with fail
                        go_ret
                        have hq := HQ.out
                        subst hq
                        exact ⟨rfl, rfl⟩
                · rw [hv]
                  have u0 : decide ((u : Int) < 0) = false := by simp
                  clear hv
                  by_cases h1 : f < 0
                  · have p1 : decide (f < 0) = true := by simpa using h1
                    have HQ : Hid (E = 7) := Lib.hid (by rw [HEE.out]; unfold rngE; rw [if_neg (by omega)])
                    clear h1
                    go_wp2_with fail
                    go_ret
                    have hq := HQ.out
                    subst hq
                    exact ⟨rfl, rfl⟩
                  · have p1 : decide (f < 0) = false := by simpa using h1
                    by_cases h2 : t < f
                    · have p2 : decide (t < f) = true := by simpa using h2
                      have HQ : Hid (E = 7) := Lib.hid (by rw [HEE.out]; unfold rngE; rw [if_neg (by omega)])
                      clear h1 h2
                      go_wp2_with fail
                      go_ret
                      have hq := HQ.out
                      subst hq
                      exact ⟨rfl, rfl⟩
                    · have p2 : decide (t < f) = false := by simpa using h2
                      by_cases h3 : (u : Int) < t
                      · have p3 : decide ((u : Int) < t) = true := by simpa using h3
                        have HQ : Hid (E = 7) := Lib.hid (by rw [HEE.out]; unfold rngE; rw [if_neg (by omega)])
                        clear h1 h2 h3
                        go_wp2_with fail
                        go_ret
                        have hq := HQ.out
                        subst hq
                        exact ⟨rfl, rfl⟩
                      · have p3 : decide ((u : Int) < t) = false := by simpa using h3
                        have HQ : Hid (E = 0) := Lib.hid (by rw [HEE.out]; unfold rngE; rw [if_pos (by omega)])
                        clear h1 h2 h3
                        go_wp2_with fail
                        go_ret
                        have hq := HQ.out
                        subst hq
                        exact ⟨rfl, rfl⟩
  · have q1 : (n1 == n3) = false := by simpa using h13
    have q2 : (((n1 : Nat) : Int) != ((n3 : Nat) : Int)) = true := by rw [bne_iff_ne]; omega
    have q3 : (n1 != n3) = true := by rw [bne_iff_ne]; exact h13
    have HQ : Hid (E = 6) := Lib.hid (H6.out fun h => h13 (by rw [← L1.out, ← L3.out]; exact h.1))
    clear h13
    go_enter Try.func51, Try.ntmps51
    go_wp2_with fail
    go_ret
    have hq := HQ.out
    subst hq
    exact ⟨rfl, rfl⟩

end Go.Proofs.Ytdbfkjhdnbmpeaa.Sk

namespace Go.Proofs.Ytdbfkjhdnbmpeaa.Sk
set_option linter.unusedSimpArgs false
set_option linter.unusedVariables false
open Go Go.RowKit Go.Proofs.Ytdbfkjhdnbmpeaa Go.Proofs.Ytdbfkjhdnbmpeaa.Mm Go.Proofs.Ytdbfkjhdnbmpeaa.Gf Go.Proofs.Ytdbfkjhdnbmpeaa.Wr Go.Proofs.Ytdbfkjhdnbmpeaa.Nb Go.Proofs.Ytdbfkjhdnbmpeaa.St

theorem cell_keep {w0 w : World} {N : List Ent} {b o : Nat} {v : Value} (h : St w0 w [] N) (hc : w0.cell? ⟨b, o, none⟩ = some v) : w.cell? ⟨b, o, none⟩ = some v := by
  rw [h.below.cell (p := ⟨b, o, none⟩) (cell_lt hc)]; exact hc
def keyT (T : TT) : List (Nat × Nat × Nat) := T.map fun x => (x.1, x.2.2, x.2.1.length)
theorem sdT_of (T : TT) : sdT T = (keyT T).map fun y => ⟨some ⟨y.1, 0, none⟩, y.2.1, y.2.2⟩ := by simp [sdT, keyT]
theorem CopyT.key {A : Option Addr} {n c : Nat} {T T' : TT} {G : List Ent} (h : CopyT A n c T G) (hk : keyT T' = keyT T) (ho : okT T') : CopyT A n c T' G := by
  refine ⟨?_, by rw [sdT_of, hk, ← sdT_of]; exact h.2.1, ho⟩
  have := congrArg List.length hk
  simp only [keyT, List.length_map] at this
  rw [this, h.1]
theorem CopyT.hdr {A : Option Addr} {n c i b m : Nat} {D : List Nat} {T : TT} {G N : List Ent} {w0 w : World} (h : CopyT A n c T G) (hi : T[i]? = some (b, D, m)) (hs : St w0 w [] N) (hG : ∀ e ∈ G, e ∈ N) :
    ∃ hb ho, A = some ⟨hb, ho, none⟩ ∧ ∀ (w' : World) (N' : List Ent), St w0 w' [] N' → (∀ e ∈ G, e ∈ N') → w'.cell? ⟨hb, ho + i, none⟩ = some (.slice (some ⟨b, 0, none⟩) m D.length) := by
  have hL : i < (sdT T).length := by rw [sdT_length]; exact (List.getElem?_eq_some_iff.1 hi).1
  obtain ⟨hb, ho, e, _⟩ := (h.rdV hs hG) (by omega)
  refine ⟨hb, ho, e, fun w' N' hs' hG' => ?_⟩
  obtain ⟨b', o', e', k⟩ := (h.rdV hs' hG') (by omega)
  rw [e] at e'
  injection e' with e'
  injection e' with e1 e2 _
  subst e1 e2
  exact k i ⟨some ⟨b, 0, none⟩, m, D.length⟩ (by unfold sdT; rw [List.getElem?_map, hi]; rfl)
theorem split_T {T : TT} {i : Nat} (hi : i < T.length) : ∃ P b D m Q, T = P ++ (b, D, m) :: Q ∧ P.length = i :=
  ⟨T.take i, T[i].1, T[i].2.1, T[i].2.2, T.drop (i + 1), by
    have := List.take_append_drop i T
    rw [List.drop_eq_getElem_cons hi] at this
    exact this.symm, by rw [List.length_take]; omega⟩
theorem wr_cutm {D vs : List Nat} {f m : Nat} (h : f + vs.length ≤ m) (hm : m ≤ D.length) : (Wr.wr D f vs).take m = Wr.wr (D.take m) f vs := by
  apply List.ext_getElem?
  intro j
  rw [List.getElem?_take]
  by_cases hj : j < m
  · rw [if_pos hj, Wr.wr_get _ _ _ _ (by omega), Wr.wr_get _ _ _ _ (by rw [List.length_take]; omega)]
    split
    · rfl
    · rw [List.getElem?_take, if_pos hj]
  · rw [if_neg hj, List.getElem?_eq_none (by rw [wr_length, List.length_take]; omega)]
/-- One of the lists written. -/
theorem row_step {T P Q : TT} {b m i f : Nat} {D vs : List Nat} {R : List (List Nat)} (hT : T = P ++ (b, D, m) :: Q) (hP : P.length = i) (hl : liT T = R) (hok : okT T) (hf : f + vs.length ≤ m) (h8 : B8 vs) :
    keyT (P ++ (b, Wr.wr D f vs, m) :: Q) = keyT T ∧ okT (P ++ (b, Wr.wr D f vs, m) :: Q) ∧ liT (P ++ (b, Wr.wr D f vs, m) :: Q) = R.set i (Wr.wr (R.getD i []) f vs) ∧ R.getD i [] = D.take m := by
  obtain ⟨k1, k2, k3⟩ := hok (b, D, m) (by rw [hT]; simp)
  have e1 : R = liT P ++ D.take m :: liT Q := by rw [← hl, hT]; simp [liT]
  have hPl : (liT P).length = i := by rw [liT_length, hP]
  have e2 : R.getD i [] = D.take m := by
    rw [e1, List.getD_eq_getElem?_getD, List.getElem?_append_right (by omega), hPl]; simp
  refine ⟨by rw [hT]; simp [keyT, wr_length], fun x hx => ?_, ?_, e2⟩
  · rcases List.mem_append.1 hx with hx | hx
    · exact hok x (by rw [hT]; simp [hx])
    · rcases List.mem_cons.1 hx with rfl | hx
      · exact ⟨by dsimp only; rw [wr_length]; exact k1, by dsimp only; rw [wr_length]; exact k2, wr_b8 k3 h8⟩
      · exact hok x (by rw [hT]; simp [hx])
  · rw [e2, e1, List.set_append_right _ _ (by omega), hPl, Nat.sub_self, List.set_cons_zero, ← wr_cutm hf k1]
    simp [liT]
theorem dsumC {A1 A2 : Option Addr} {k m c1 c2 t : Nat} {row : List Nat} {srcs : List (List Nat)} {w : World} (h1 : row.length = k) (h2 : srcs.length = m) (hkm : k ≤ m) (hk : k ≤ 140737488351232) (ht : ∀ i, i < k → t < (srcs.getD i []).length) (r1 : Rd w A1 row) (r2 : RdL w [] A2 srcs) (b1 : B8 row) (b2 : B8L srcs) :
    Calls Try.prog 47 #[.slice A1 k c1, .slice A2 m c2, .int .i64 (t : Int)] w fun e w' => e = .returned (.int .u8 ((smk row srcs t k : Nat) : Int)) ∧ St w w' [] [] :=
  (dsum_st h1 h2 hkm hk ht r1 r2 b1 b2).mono fun e w' ⟨he, n, hw⟩ => ⟨he, by rw [hw]; exact (St.start w).drewN⟩
theorem agr_no9 {rows srcs L : List (List Nat)} {f t : Int} (h : fitsE rows srcs L f t ≠ 0) : agrE rows srcs L f t = false := by unfold agrE; rw [if_neg h]
theorem app_no9 {rows srcs L : List (List Nat)} {f t : Int} (h : fitsE rows srcs L f t ≠ 0) : appE rows srcs L f t = L := by unfold appE; rw [if_neg h]
theorem fits_srcs {rows srcs L : List (List Nat)} {f t : Int} (h : fitsE rows srcs L f t = 0) : ∀ i, i < srcs.length → t ≤ ((srcs.getD i []).length : Int) := by
  intro i hi
  obtain ⟨⟨_, _, g⟩, _, _, g3⟩ := fits_zero h
  have := g (srcs.getD i []) (List.mem_append_left _ (mem_getD hi))
  rw [this]; exact g3

set_option maxRecDepth 100000 in
set_option maxHeartbeats 8000000 in
/-- The document's Apply. -/
theorem dapply_st {A1 A2 A3 : Option Addr} {n1 n2 n3 c1 c2 c3 : Nat} {rows srcs dsts : List (List Nat)} {w : World} {f t : Int} (h1 : rows.length = n1) (h2 : srcs.length = n2) (h3 : dsts.length = n3) (hf1 : Fit rows) (hf2 : Fit srcs) (hf3 : Fit dsts) (b1 : B8L rows) (b2 : B8L srcs) (b3 : B8L dsts) (r1 : RdL w [] A1 rows) (r2 : RdL w [] A2 srcs) (r3 : RdL w [] A3 dsts) :
    Calls Try.prog 43 #[.slice A1 n1 c1, .slice A2 n2 c2, .slice A3 n3 c3, .int .i64 f, .int .i64 t] w fun e w' => ∃ A c T G, e = .returned (.tuple #[.slice A n3 c, .int .i64 (fitsE rows srcs dsts f t)]) ∧ CopyT A n3 c T G ∧ liT T = appE rows srcs dsts f t ∧ St w w' [] (G ++ enT T) := by
  have L1 := Lib.hid h1; have L2 := Lib.hid h2; have L3 := Lib.hid h3; have F1 := Lib.hid hf1; have F2 := Lib.hid hf2; have F3 := Lib.hid hf3; have B1 := Lib.hid b1; have B2 := Lib.hid b2; have B3 := Lib.hid b3; have R1 := Lib.hid r1; have R2 := Lib.hid r2; have R3 := Lib.hid r3
  have un2 : n2 ≤ 140737488351232 := by have := hf2.1; omega
  have un3 : n3 ≤ 140737488351232 := by have := hf3.1; omega
  clear h1 h2 h3 hf1 hf2 hf3 b1 b2 b3 r1 r2 r3
  have S0 := Lib.hid (St.start w)
  by_cases h0 : fitsE rows srcs dsts f t = 0
  · obtain ⟨g0, g1, g2, g3⟩ := fits_zero h0
    have g4 := fits_lens h0
    have g5 := fits_srcs h0
    obtain ⟨f, rfl⟩ := Int.eq_ofNat_of_zero_le g1
    obtain ⟨t, rfl⟩ := Int.eq_ofNat_of_zero_le (show 0 ≤ t by omega)
    have hft : f ≤ t := by omega
    have HAE : Hid (appE rows srcs dsts f t = appR rows srcs dsts f (t - f) n3) := Lib.hid (by
      unfold appE appL
      rw [if_pos h0, show ((t : Int) - (f : Int)).toNat = t - f by omega, Int.toNat_natCast, L3.out])
    have HTL : Hid (∀ r, r < n3 → t ≤ (dsts.getD r []).length) := Lib.hid (fun r hr => by have := g4 r (by rw [L3.out]; exact hr); omega)
    have HTS : Hid (∀ j, j < n2 → t ≤ (srcs.getD j []).length) := Lib.hid (fun j hj => by have := g5 j (by rw [L2.out]; exact hj); omega)
    have HN : Hid (n1 = n3) := Lib.hid (by rw [← L1.out, ← L3.out]; exact g0.1)
    have HRL : Hid (∀ r, r < n3 → (rows.getD r []).length = n2) := Lib.hid (fun r hr => by rw [g0.2.1 _ (mem_getD (by rw [L1.out, HN.out]; exact hr)), L2.out])
    have HE := Lib.hid h0
    clear h0 g0 g1 g2 g3 g4 g5
    go_enter Try.func43, Try.ntmps43
    go_wp2_with fail
    refine (dcopies_st L3.out F3.out B3.out R3.out).mono ?_
    rintro e w1 ⟨AO, cO, T, G, rfl, hct, hli, hh⟩
    have h1 := S0.out.call hh; clear hh S0
    try simp only [List.nil_append, List.cons_append, List.append_eq, Int.toNat_natCast] at h1
    have CT := Lib.hid hct; have HLI := Lib.hid hli; clear hct hli
    have S1 := Lib.hid h1; clear h1
    have SS : Hid (St w w1 [] (G ++ enT T)) := Lib.hid (by simpa only [List.append_nil] using S1.out)
    clear S1
    go_wp2_with fail
    refine (dfits_st (f := (f : Int)) (t := (t : Int)) L1.out L2.out L3.out F1.out F2.out F3.out (SS.out.extL R1.out) (SS.out.extL R2.out) (SS.out.extL R3.out)).mono ?_
    rintro e _ ⟨rfl, rfl⟩
    rw [HE.out]
    go_wp2_with fail
    go_loopw [30] (fun vi wq => ∃ (r : Nat) (T' : TT), r ≤ n3 ∧ vi = .int .i64 r ∧ keyT T' = keyT T ∧ okT T' ∧ liT T' = appR rows srcs dsts f (t - f) r ∧ St w wq [] (G ++ enT T')) (fun vi _ => n3 - (intOf vi).toNat)
    case atStart => exact ⟨0, T, by omega, rfl, rfl, CT.out.2.2, HLI.out, SS.out⟩
    case round =>
      clear SS
      obtain ⟨r, T', hr, rfl, hkey, hok, hlt', hs⟩ := hrel
      have S20 := Lib.hid hs; have HKEY := Lib.hid hkey; have HOK := Lib.hid hok; have HLT := Lib.hid hlt'; clear hs hkey hok hlt'
      have CT' := Lib.hid (CT.out.key HKEY.out HOK.out)
      by_cases hlt : r < n3
      · have i1 : (r : Int) < (n3 : Int) := by omega
        obtain ⟨P, b, D, m, Q, hT, hPl⟩ := split_T (T := T') (i := r) (by rw [CT'.out.1]; exact hlt)
        have hget : T'[r]? = some (b, D, m) := by rw [hT, List.getElem?_append_right (by omega), hPl]; simp
        obtain ⟨hb, ho, eA, hcell⟩ := CT'.out.hdr hget S20.out (fun e he => List.mem_append_left _ he)
        subst eA
        obtain ⟨vs, hvs⟩ : ∃ vs, Hid ((sumL (rows.getD r []) srcs f (t - f)) = vs) := ⟨_, Lib.hid rfl⟩
        have hm : (dsts.getD r []).length = m := by
          have e1 : (liT T').getD r [] = dsts.getD r [] := by rw [HLT.out]; rw [appR_get, if_neg (by omega)]
          have e2 : (liT T').getD r [] = D.take m := by unfold liT; rw [List.getD_eq_getElem?_getD, List.getElem?_map, hget]; rfl
          rw [← e1, e2, List.length_take]
          have := (HOK.out (b, D, m) (by rw [hT]; simp)).1
          dsimp only at this; omega
        have htm : t ≤ m := by rw [← hm]; exact HTL.out r hlt
        have htb : t ≤ 140737488351232 := by have := F3.out.get r; omega
        have hmD : m ≤ D.length := (HOK.out (b, D, m) (by rw [hT]; simp)).1
        have hvl : vs.length = t - f := by rw [← hvs.out]; exact sumL_length _ _ _ _
        have hv8 : B8 vs := by rw [← hvs.out]; exact sumL_b8 (B1.out.get r)
        have HST := Lib.hid (row_step (vs := vs) (f := f) hT hPl HLT.out HOK.out (by rw [hvl]; omega) hv8)
        have HVL := Lib.hid hvl
        obtain ⟨PR, HPR⟩ : ∃ X, Hid (G ++ enT P = X) := ⟨_, Lib.hid rfl⟩
        have S21 : Hid (St w wr [] (PR ++ bt b D :: enT Q)) := Lib.hid (by
          have := S20.out
          rw [hT] at this
          rw [← HPR.out, List.append_assoc]
          simpa [enT] using this)
        have HGP : Hid (∀ X, ∀ e ∈ G, e ∈ PR ++ bt b X :: enT Q) := Lib.hid (fun X e he => by rw [← HPR.out]; simp [he])
        have HNX : Hid (∀ w', St w w' [] (PR ++ bt b (Wr.wr D f vs) :: enT Q) → ∃ T2, keyT T2 = keyT T ∧ okT T2 ∧ liT T2 = appR rows srcs dsts f (t - f) (r + 1) ∧ St w w' [] (G ++ enT T2)) := Lib.hid (fun w' h => by
          refine ⟨P ++ (b, Wr.wr D f vs, m) :: Q, HST.out.1.trans HKEY.out, HST.out.2.1, ?_, ?_⟩
          · rw [HST.out.2.2.1, ← hvs.out]
            show _ = (appR rows srcs dsts f (t - f) r).set r _
            rw [appR_get, if_neg (by omega)]
          · rw [← HPR.out, List.append_assoc] at h
            simpa [enT] using h)
        have HVG : Hid (∀ p, f ≤ p → p < t → vs.getD (p - f) 0 = smk (rows.getD r []) srcs p n2) := Lib.hid (fun p h1 h2 => by
          rw [← hvs.out, sumL_get (by omega), HRL.out r hlt, show f + (p - f) = p by omega])
        obtain ⟨rb, ro, RB, cB, eR, xr, -, rsr, -⟩ := R1.out.at (i := r) (by rw [L1.out, HN.out]; exact hlt)
        rw [HRL.out r hlt] at xr
        subst eR
        have HRR := Lib.hid rsr
        have HKK : Hid (∀ (w' : World) (N' : List Ent), St w w' [] N' → (∀ e ∈ G, e ∈ N') → w'.cell? ⟨hb, ho + r, none⟩ = some (.slice (some ⟨b, 0, none⟩) m D.length) ∧ w'.cell? ⟨rb, ro + r, none⟩ = some (.slice RB n2 cB)) := Lib.hid (fun w' N' h1 h2 => ⟨hcell w' N' h1 h2, cell_keep h1 xr⟩)
        have HR8 := Lib.hid (B1.out.get r)
        have HRN : Hid ((rows.getD r []).length = n2) := Lib.hid (HRL.out r hlt)
        have un1 : (r : Int) < (n1 : Int) := by have := HN.out; omega
        clear rsr xr hcell hvs
        generalize rows.getD r [] = row at *
        clear S20 HST hT hget HPR
        go_wp2_with fail
        go_loopw [15] (fun vi wq => ∃ p : Nat, f ≤ p ∧ p ≤ t ∧ vi = .int .i64 p ∧ St w wq [] (PR ++ bt b (Wr.wr D f (vs.take (p - f))) :: enT Q)) (fun vi _ => t - (intOf vi).toNat)
        case atStart => exact ⟨f, Nat.le_refl _, hft, rfl, by rw [Nat.sub_self]; exact S21.out⟩
        case round =>
          clear S21
          obtain ⟨p, hfp, hpt, rfl, hs⟩ := hrel
          have S22 := Lib.hid hs; clear hs
          by_cases hp : p < t
          · have p1 : (p : Int) < (t : Int) := by omega
            have HS : Hid (Wr.wr D f (vs.take (p + 1 - f)) = (Wr.wr D f (vs.take (p - f))).set p (vs.getD (p - f) 0)) := Lib.hid (by
              have := wr_take_succ (D := D) (o := f) (vs := vs) (i := p - f) (by rw [HVL.out]; omega)
              rw [show f + (p - f) = p by omega, show p - f + 1 = p + 1 - f by omega] at this
              exact this)
            have hpD : p < (Wr.wr D f (vs.take (p - f))).length := by rw [wr_length]; omega
            have HV := Lib.hid (HVG.out p hfp hp)
            have pm1 : (p : Int) < (m : Int) := by omega
            rw [HV.out] at HS
            go_wp2_with fail
            have S23 := Lib.hid S22.out.drew; clear S22
            go_region_held3 (fun w' => w'.cell? ⟨hb, ho + r, none⟩ = some (.slice (some ⟨b, 0, none⟩) m D.length) ∧ w'.cell? ⟨rb, ro + r, none⟩ = some (.slice RB n2 cB)) (first | exact HKK.out _ _ S22.out (HGP.out _) | exact HKK.out _ _ S23.out (HGP.out _) | exact HKK.out _ _ S24.out (HGP.out _) | exact HKK.out _ _ (S24.out.setRow p (smk row srcs p n2)) (HGP.out _) | go_keep) (first
              | (go_at_call 47; refine (dsumC (t := p) HRN.out L2.out (Nat.le_refl _) un2 (fun j hj => by have := HTS.out j hj; omega) (S23.out.ext HRR.out) (S23.out.extL R2.out) HR8.out B2.out).mono ?_; rintro e w24 ⟨rfl, hh⟩; have h24 := S23.out.call hh; clear hh S23; (try simp only [List.nil_append, List.cons_append, List.append_eq, Int.toNat_natCast] at h24); have y0 := (h24.blk (by simp : bt b (Wr.wr D f (vs.take (p - f))) ∈ _)).cellRow (i := p) hpD; have f0 := (h24.blk (by simp : bt b (Wr.wr D f (vs.take (p - f))) ∈ _)).free (i := p); have S24 := Lib.hid h24; clear h24))
            have h9 := S24.out.setRow p (smk row srcs p n2)
            rw [← HS.out] at h9
            have S25 := Lib.hid h9
            clear h9 y0 f0
            go_wp2_with fail
            exact ⟨⟨p + 1, by omega, by omega, by simp, S25.out⟩, by simp [intOf]; omega⟩
          · obtain rfl : p = t := by omega
            have e : vs.take (p - f) = vs := List.take_of_length_le (by rw [HVL.out]; exact Nat.le_refl _)
            rw [e] at S22
            obtain ⟨T2, k1, k2, k3, k4⟩ := HNX.out _ S22.out
            have K4 := Lib.hid k4; have K3 := Lib.hid k3; have K2 := Lib.hid k2; have K1 := Lib.hid k1
            clear k1 k2 k3 k4 e
            go_wp2_with fail
            exact ⟨⟨r + 1, T2, by omega, by simp, K1.out, K2.out, K3.out, K4.out⟩, by simp [intOf]; omega⟩
      · obtain rfl : r = n3 := by omega
        go_wp2_with fail
        go_ret2
        first
          | exact ⟨_, cO, T', G, (by rw [HE.out]; rfl), CT'.out, HLT.out.trans HAE.out.symm, S20.out⟩
          | exact ⟨_, cO, (by rw [HE.out]; rfl), T', G, CT'.out, HLT.out.trans HAE.out.symm, S20.out⟩
  · have HE := Lib.hid (app_no9 h0)
    have q1 : (fitsE rows srcs dsts f t == 0) = false := by simpa using h0
    have q2 : (fitsE rows srcs dsts f t != 0) = true := by rw [bne_iff_ne]; exact h0
    clear h0
    go_enter Try.func43, Try.ntmps43
    go_wp2_with fail
    refine (dcopies_st L3.out F3.out B3.out R3.out).mono ?_
    rintro e w1 ⟨AO, cO, T, G, rfl, hct, hli, hh⟩
    have h1 := S0.out.call hh; clear hh S0
    try simp only [List.nil_append, List.cons_append, List.append_eq, Int.toNat_natCast] at h1
    have CT := Lib.hid hct; have HLI := Lib.hid hli; clear hct hli
    have S1 := Lib.hid h1; clear h1
    have SS : Hid (St w w1 [] (G ++ enT T)) := Lib.hid (by simpa only [List.append_nil] using S1.out)
    clear S1
    go_wp2_with fail
    refine (dfits_st (f := f) (t := t) L1.out L2.out L3.out F1.out F2.out F3.out (SS.out.extL R1.out) (SS.out.extL R2.out) (SS.out.extL R3.out)).mono ?_
    rintro e _ ⟨rfl, rfl⟩
    go_wp2_with fail
    go_ret2
    exact ⟨AO, cO, T, G, (by rfl), CT.out, by rw [HLI.out, HE.out], SS.out⟩

set_option maxRecDepth 100000 in
set_option maxHeartbeats 8000000 in
/-- The document's Agrees. -/
theorem dagrees_st {A1 A2 A3 : Option Addr} {n1 n2 n3 c1 c2 c3 : Nat} {rows srcs dsts : List (List Nat)} {w : World} {f t : Int} (h1 : rows.length = n1) (h2 : srcs.length = n2) (h3 : dsts.length = n3) (hf1 : Fit rows) (hf2 : Fit srcs) (hf3 : Fit dsts) (b1 : B8L rows) (b2 : B8L srcs) (b3 : B8L dsts) (r1 : RdL w [] A1 rows) (r2 : RdL w [] A2 srcs) (r3 : RdL w [] A3 dsts) :
    Calls Try.prog 44 #[.slice A1 n1 c1, .slice A2 n2 c2, .slice A3 n3 c3, .int .i64 f, .int .i64 t] w fun e w' => e = .returned (.tuple #[.bool (agrE rows srcs dsts f t), .int .i64 (fitsE rows srcs dsts f t)]) ∧ ∃ n, w' = w.drewN n := by
  have L1 := Lib.hid h1; have L2 := Lib.hid h2; have L3 := Lib.hid h3; have F1 := Lib.hid hf1; have F2 := Lib.hid hf2; have F3 := Lib.hid hf3; have B1 := Lib.hid b1; have B2 := Lib.hid b2; have B3 := Lib.hid b3; have R1 := Lib.hid r1; have R2 := Lib.hid r2; have R3 := Lib.hid r3
  have un2 : n2 ≤ 140737488351232 := by have := hf2.1; omega
  have un3 : n3 ≤ 140737488351232 := by have := hf3.1; omega
  clear h1 h2 h3 hf1 hf2 hf3 b1 b2 b3 r1 r2 r3
  have S0 := Lib.hid (St.start w)
  by_cases h0 : fitsE rows srcs dsts f t = 0
  · obtain ⟨g0, g1, g2, g3⟩ := fits_zero h0
    have g4 := fits_lens h0
    have g5 := fits_srcs h0
    have HAI := Lib.hid (agr_iff h0)
    obtain ⟨f, rfl⟩ := Int.eq_ofNat_of_zero_le g1
    obtain ⟨t, rfl⟩ := Int.eq_ofNat_of_zero_le (show 0 ≤ t by omega)
    have hft : f ≤ t := by omega
    have HTL : Hid (∀ r, r < n3 → t ≤ (dsts.getD r []).length) := Lib.hid (fun r hr => by have := g4 r (by rw [L3.out]; exact hr); omega)
    have HTS : Hid (∀ j, j < n2 → t ≤ (srcs.getD j []).length) := Lib.hid (fun j hj => by have := g5 j (by rw [L2.out]; exact hj); omega)
    have HN : Hid (n1 = n3) := Lib.hid (by rw [← L1.out, ← L3.out]; exact g0.1)
    have HRL : Hid (∀ r, r < n3 → (rows.getD r []).length = n2) := Lib.hid (fun r hr => by rw [g0.2.1 _ (mem_getD (by rw [L1.out, HN.out]; exact hr)), L2.out])
    have HE := Lib.hid h0
    clear h0 g0 g1 g2 g3 g4 g5
    obtain ⟨B, HB⟩ : ∃ B, Hid (agrE rows srcs dsts f t = B) := ⟨_, Lib.hid rfl⟩
    rw [HB.out] at HAI ⊢
    rw [HE.out]
    go_enter Try.func44, Try.ntmps44
    go_wp2_with fail
    refine (dfits_st (f := (f : Int)) (t := (t : Int)) L1.out L2.out L3.out F1.out F2.out F3.out R1.out R2.out R3.out).mono ?_
    rintro e _ ⟨rfl, rfl⟩
    rw [HE.out]
    go_wp2_with fail
    go_loopw [26] (fun vi wq => ∃ r : Nat, r ≤ n3 ∧ vi = .int .i64 r ∧ (∃ n, wq = w.drewN n) ∧ ∀ r' j : Nat, r' < r → f ≤ j → j < t → (dsts.getD r' []).getD j 0 = smk (rows.getD r' []) srcs j n2) (fun vi _ => n3 - (intOf vi).toNat)
    case atStart => exact ⟨0, by omega, rfl, ⟨0, rfl⟩, fun r' j h => by omega⟩
    case round =>
      obtain ⟨r, hr, rfl, hw, hall⟩ := hrel
      have HW := Lib.hid hw; have HALL := Lib.hid hall; clear hw hall
      by_cases hlt : r < n3
      · have i1 : (r : Int) < (n3 : Int) := by omega
        have un1 : (r : Int) < (n1 : Int) := by have := HN.out; omega
        go_wp2_with fail
        go_loopw [14] (fun vi wq => ∃ p : Nat, f ≤ p ∧ p ≤ t ∧ vi = .int .i64 p ∧ (∃ n, wq = w.drewN n) ∧ ∀ j : Nat, f ≤ j → j < p → (dsts.getD r []).getD j 0 = smk (rows.getD r []) srcs j n2) (fun vi _ => t - (intOf vi).toNat)
        case atStart => exact ⟨f, Nat.le_refl _, hft, rfl, HW.out, fun j h1 h2 => by omega⟩
        case round =>
          clear HW
          obtain ⟨p, hfp, hpt, rfl, hw, hin⟩ := hrel
          have HW := Lib.hid hw; have HIN := Lib.hid hin; clear hw hin
          by_cases hp : p < t
          · have p1 : (p : Int) < (t : Int) := by omega
            have htb : t ≤ 140737488351232 := by have := F3.out.get r; have := HTL.out r hlt; omega
            have W1 : RdL wr [] A1 rows := by obtain ⟨n, e⟩ := HW.out; rw [e]; exact R1.out
            have W2 : RdL wr [] A2 srcs := by obtain ⟨n, e⟩ := HW.out; rw [e]; exact R2.out
            have W3 : RdL wr [] A3 dsts := by obtain ⟨n, e⟩ := HW.out; rw [e]; exact R3.out
            obtain ⟨rb, ro, RB, cB, eR, xr, -, rsr, -⟩ := W1.at (i := r) (by rw [L1.out, HN.out]; exact hlt)
            rw [HRL.out r hlt] at xr
            obtain ⟨db, dof, DB, cD, eD, xd, -, rsd, -⟩ := W3.at (i := r) (by rw [L3.out]; exact hlt)
            have hdl := HTL.out r hlt
            obtain ⟨b8, o8, e8, k8⟩ := rsd (by omega)
            have x8 := k8 p (by omega)
            have v8 := (B3.out.get r).get (i := p) (by omega)
            have HQ : Hid (∀ m : Nat, Calls Try.prog 47 #[.slice RB n2 cB, .slice A2 n2 c2, .int .i64 (p : Int)] (wr.drewN m) fun e w' => e = .returned (.int .u8 ((smk (rows.getD r []) srcs p n2 : Nat) : Int)) ∧ ∃ n, w' = (wr.drewN m).drewN n) := Lib.hid (fun m => dsum_st (w := wr.drewN m) (t := p) (HRL.out r hlt) L2.out (Nat.le_refl _) un2 (fun j hj => by have := HTS.out j hj; omega) rsr W2 (B1.out.get r) B2.out)
            have s8 := smk_256 (srcs := srcs) (t := p) (B1.out.get r) n2
            subst eR eD e8
            clear k8 rsd rsr W1 W2 W3
            have HD : Hid ((dsts.getD r []).getD p 0 = (dsts.getD r []).getD p 0) := Lib.hid rfl
            obtain ⟨q, hq⟩ : ∃ q, (dsts.getD r []).length = q := ⟨_, rfl⟩
            rw [hq] at xd hdl
            clear hq HD
            obtain ⟨s, hs⟩ : ∃ s, Hid (smk (rows.getD r []) srcs p n2 = s) := ⟨_, Lib.hid rfl⟩
            obtain ⟨x, hx⟩ : ∃ x, Hid ((dsts.getD r []).getD p 0 = x) := ⟨_, Lib.hid rfl⟩
            rw [hs.out] at HQ s8
            rw [hx.out] at x8 v8
            have q1 : (p : Int) < (q : Int) := by omega
            clear R1 R2 R3
            by_cases hxs : x = s
            · subst hxs
              go_wp2
              go_quiet ((with_reducible exact Calls.quiet_of (HQ.out _)))
              go_wp2
              go_roundw
              case rel => exact ⟨p + 1, by omega, by omega, by go_num, by obtain ⟨n, e⟩ := HW.out; exact ⟨n + nq, by rw [e, World.drewN_drewN]⟩, fun j h1 h2 => by
                rcases Nat.lt_or_ge j p with h | h
                · exact HIN.out j h1 h
                · obtain rfl : j = p := by omega
                  rw [hx.out, hs.out]⟩
              case measure => simp [intOf]; omega
            · have q3 : (x == s) = false := by simpa using hxs
              have q4 : (((x : Nat) : Int) != ((s : Nat) : Int)) = true := by rw [bne_iff_ne]; omega
              have q5 : (x != s) = true := by rw [bne_iff_ne]; exact hxs
              have HQB : Hid (B = false) := Lib.hid (by
                rw [← Bool.not_eq_true, HAI.out]
                intro h
                have := h r p (by rw [L3.out]; exact hlt) (by omega) (by omega)
                rw [HRL.out r hlt, hx.out, hs.out] at this
                exact hxs this)
              clear hxs
              go_wp2
              go_quiet ((with_reducible exact Calls.quiet_of (HQ.out _)))
              go_wp2
              go_ret2
              have hq2 := HQB.out
              subst hq2
              exact ⟨rfl, by obtain ⟨n, e⟩ := HW.out; exact ⟨n + nq, by rw [e, World.drewN_drewN]⟩⟩
          · have ept : p = t := by omega
            have d0 : decide ((p : Int) < (t : Int)) = false := by simp; omega
            have d0' : decide (p < t) = false := by simp; omega
            clear R1 R2 R3
            go_wp2_with fail
            refine ⟨⟨r + 1, by omega, by simp, HW.out, fun r' j h1 h2 h3 => ?_⟩, by simp [intOf]; omega⟩
            rcases Nat.lt_or_ge r' r with h | h
            · exact HALL.out r' j h h2 h3
            · obtain rfl : r' = r := by omega
              exact HIN.out j h2 (by omega)
      · have ern : r = n3 := by omega
        have d0 : decide ((r : Int) < (n3 : Int)) = false := by simp; omega
        have d0' : decide (r < n3) = false := by simp; omega
        have HQB : Hid (B = true) := Lib.hid (by
          rw [HAI.out]
          intro r' j h1 h2 h3
          rw [L3.out] at h1
          rw [HRL.out r' h1]
          exact HALL.out r' j (by omega) (by omega) (by omega))
        clear R1 R2 R3
        go_wp2_with fail
        go_ret2
        have hq2 := HQB.out
        subst hq2
        exact ⟨rfl, HW.out⟩
  · have HE := Lib.hid (agr_no9 h0)
    have q1 : (fitsE rows srcs dsts f t == 0) = false := by simpa using h0
    have q2 : (fitsE rows srcs dsts f t != 0) = true := by rw [bne_iff_ne]; exact h0
    clear h0
    rw [HE.out]
    go_enter Try.func44, Try.ntmps44
    go_wp2_with fail
    refine (dfits_st (f := f) (t := t) L1.out L2.out L3.out F1.out F2.out F3.out R1.out R2.out R3.out).mono ?_
    rintro e _ ⟨rfl, rfl⟩
    go_wp2_with fail
    go_ret2
    exact ⟨rfl, 0, rfl⟩

end Go.Proofs.Ytdbfkjhdnbmpeaa.Sk

namespace Go.Proofs.Ytdbfkjhdnbmpeaa.Sk
set_option linter.unusedSimpArgs false
set_option linter.unusedVariables false
open Go Go.RowKit Go.Proofs.Ytdbfkjhdnbmpeaa Go.Proofs.Ytdbfkjhdnbmpeaa.Mm Go.Proofs.Ytdbfkjhdnbmpeaa.Gf Go.Proofs.Ytdbfkjhdnbmpeaa.Wr Go.Proofs.Ytdbfkjhdnbmpeaa.Nb Go.Proofs.Ytdbfkjhdnbmpeaa.St

theorem spr_no {col diff : List Nat} {L : List (List Nat)} {f t : Int} (h : sprE col diff L f t ≠ 0) : sprD col diff L f t = L := by unfold sprD; rw [if_neg h]
theorem sprv_b8 {col diff : List Nat} {L : List (List Nat)} {r f k : Nat} (b1 : B8 col) (b3 : B8L L) : B8 ((List.range k).map fun u => (L.getD r []).getD (f + u) 0 ^^^ gm (col.getD r 0) (diff.getD (f + u) 0)) := fun x hx => by
  obtain ⟨u, hu, rfl⟩ := List.mem_map.1 hx
  exact Nat.xor_lt_two_pow (n := 8) (get_lt (b3.get r) _) (gm_lt _ (get_lt b1 r))
set_option maxRecDepth 100000 in
set_option maxHeartbeats 8000000 in
/-- The document's Spread. -/
theorem dspread_st {A1 A2 A3 : Option Addr} {nc nd n3 c1 c2 c3 : Nat} {col diff : List Nat} {dsts : List (List Nat)} {w : World} {f t : Int} (h1 : col.length = nc) (h2 : diff.length = nd) (h3 : dsts.length = n3) (und : nd ≤ 140737488351232) (hf3 : Fit dsts) (b1 : B8 col) (b2 : B8 diff) (b3 : B8L dsts) (r1 : Rd w A1 col) (r2 : Rd w A2 diff) (r3 : RdL w [] A3 dsts) :
    Calls Try.prog 39 #[.slice A1 nc c1, .slice A2 nd c2, .slice A3 n3 c3, .int .i64 f, .int .i64 t] w fun e w' => ∃ A c T G, e = .returned (.tuple #[.slice A n3 c, .int .i64 (sprE col diff dsts f t)]) ∧ CopyT A n3 c T G ∧ liT T = sprD col diff dsts f t ∧ St w w' [] (G ++ enT T) := by
  have un3 : n3 ≤ 140737488351232 := by have := hf3.1; omega
  have L1 := Lib.hid h1; have L2 := Lib.hid h2; have L3 := Lib.hid h3; have F3 := Lib.hid hf3; have B1 := Lib.hid b1; have B2 := Lib.hid b2; have B3 := Lib.hid b3; have R1 := Lib.hid r1; have R2 := Lib.hid r2; have R3 := Lib.hid r3
  clear h1 h2 h3 hf3 b1 b2 b3 r1 r2 r3
  have S0 := Lib.hid (St.start w)
  obtain ⟨E, HE⟩ : ∃ E, Hid (sprE col diff dsts f t = E) := ⟨_, Lib.hid rfl⟩
  have HNO : Hid (E ≠ 0 → sprD col diff dsts f t = dsts) := Lib.hid (fun h => spr_no (by rw [HE.out]; exact h))
  have H6 : Hid (¬ SprOk col diff dsts → E = 6) := Lib.hid (fun h => by rw [← HE.out]; unfold sprE; rw [if_neg h])
  rw [HE.out]
  go_enter Try.func39, Try.ntmps39
  go_wp2_with fail
  refine (dcopies_st L3.out F3.out B3.out R3.out).mono ?_
  rintro e w1 ⟨AO, cO, T, G, rfl, hct, hli, hh⟩
  have h1 := S0.out.call hh; clear hh S0
  try simp only [List.nil_append, List.cons_append, List.append_eq, Int.toNat_natCast] at h1
  have CT := Lib.hid hct; have HLI := Lib.hid hli; clear hct hli
  have S1 := Lib.hid h1; clear h1
  have SS : Hid (St w w1 [] (G ++ enT T)) := Lib.hid (by simpa only [List.append_nil] using S1.out)
  clear S1
  by_cases hcn : n3 = nc
  · subst hcn
    go_wp2_with fail
    go_loop [27] (fun vi => ∃ i : Nat, i ≤ n3 ∧ vi = .int .i64 i ∧ ∀ j, j < i → (dsts.getD j []).length = nd) (fun vi => n3 - (intOf vi).toNat)
    case atStart => exact ⟨0, by omega, rfl, fun j hj => by omega⟩
    case round =>
      obtain ⟨i, hi, rfl, hall⟩ := hrel
      have HALL := Lib.hid hall; clear hall
      by_cases hlt : i < n3
      · obtain ⟨b4, o4, B4, d4, e4, x4, g4, r4, _⟩ := (SS.out.extL R3.out).at (i := i) (by rw [L3.out]; exact hlt)
        subst e4
        have HMEM : Hid (dsts.getD i [] ∈ dsts) := Lib.hid (mem_getD (by rw [L3.out]; exact hlt))
        obtain ⟨q, hq⟩ : ∃ q, Hid ((dsts.getD i []).length = q) := ⟨_, Lib.hid rfl⟩
        rw [hq.out] at x4
        clear r4 g4
        have i1 : (i : Int) < (n3 : Int) := by omega
        by_cases hqn : q = nd
        · subst hqn
          go_wp2_with fail
          clear x4
          go_round
          case rel => exact ⟨i + 1, by omega, by go_num, fun j hj => by
            rcases Nat.lt_or_ge j i with h | h
            · exact HALL.out j h
            · obtain rfl : j = i := by omega
              exact hq.out⟩
          case measure => simp [intOf]; omega
        · have q1 : (q == nd) = false := by simpa using hqn
          have q2 : (((q : Nat) : Int) != ((nd : Nat) : Int)) = true := by rw [bne_iff_ne]; omega
          have q3 : (q != nd) = true := by rw [bne_iff_ne]; exact hqn
          have HQ : Hid (E = 6) := Lib.hid (H6.out fun h => hqn (by rw [← hq.out, ← L2.out]; exact h.2 _ HMEM.out))
          clear hqn
          go_wp2_with fail
          go_ret2
          have hq := HQ.out
          subst hq
          first
            | exact ⟨AO, cO, T, G, (by rfl), CT.out, by rw [HLI.out, HNO.out (by decide)], SS.out⟩
            | exact ⟨AO, cO, (by rfl), T, G, CT.out, by rw [HLI.out, HNO.out (by decide)], SS.out⟩
      · have hin : i = n3 := by omega
        have HOKS : Hid (SprOk col diff dsts) := Lib.hid ⟨by rw [L1.out, L3.out], fun r hr => by
          obtain ⟨j, hj, rfl⟩ := List.getElem_of_mem hr
          have := HALL.out j (by rw [hin, ← L3.out]; exact hj)
          rw [L2.out, ← this]; simp [hj]⟩
        have HR : Hid (E = rngE f t nd) := Lib.hid (by rw [← HE.out]; unfold sprE; rw [if_pos HOKS.out, L2.out])
        have d0 : decide ((i : Int) < (n3 : Int)) = false := by simp; omega
        have d0' : decide (i < n3) = false := by simp; omega
        by_cases h1 : f < 0
        · have p1 : decide (f < 0) = true := by simpa using h1
          have HQ : Hid (E = 7) := Lib.hid (by rw [HR.out]; unfold rngE; rw [if_neg (by omega)])
          clear h1 hlt
          go_wp2_with fail
          go_ret2
          have hq := HQ.out
          subst hq
          first
            | exact ⟨AO, cO, T, G, (by rfl), CT.out, by rw [HLI.out, HNO.out (by decide)], SS.out⟩
            | exact ⟨AO, cO, (by rfl), T, G, CT.out, by rw [HLI.out, HNO.out (by decide)], SS.out⟩
        · have p1 : decide (f < 0) = false := by simpa using h1
          by_cases h2 : t < f
          · have p2 : decide (t < f) = true := by simpa using h2
            have HQ : Hid (E = 7) := Lib.hid (by rw [HR.out]; unfold rngE; rw [if_neg (by omega)])
            clear h1 h2 hlt
            go_wp2_with fail
            go_ret2
            have hq := HQ.out
            subst hq
            first
              | exact ⟨AO, cO, T, G, (by rfl), CT.out, by rw [HLI.out, HNO.out (by decide)], SS.out⟩
              | exact ⟨AO, cO, (by rfl), T, G, CT.out, by rw [HLI.out, HNO.out (by decide)], SS.out⟩
          · have p2 : decide (t < f) = false := by simpa using h2
            by_cases h3 : (nd : Int) < t
            · have p3 : decide ((nd : Int) < t) = true := by simpa using h3
              have HQ : Hid (E = 7) := Lib.hid (by rw [HR.out]; unfold rngE; rw [if_neg (by omega)])
              clear h1 h2 h3 hlt
              go_wp2_with fail
              go_ret2
              have hq := HQ.out
              subst hq
              first
                | exact ⟨AO, cO, T, G, (by rfl), CT.out, by rw [HLI.out, HNO.out (by decide)], SS.out⟩
                | exact ⟨AO, cO, (by rfl), T, G, CT.out, by rw [HLI.out, HNO.out (by decide)], SS.out⟩
            · have p3 : decide ((nd : Int) < t) = false := by simpa using h3
              have HQ : Hid (E = 0) := Lib.hid (by rw [HR.out]; unfold rngE; rw [if_pos (by omega)])
              obtain ⟨f, rfl⟩ := Int.eq_ofNat_of_zero_le (show 0 ≤ f by omega)
              obtain ⟨t, rfl⟩ := Int.eq_ofNat_of_zero_le (show 0 ≤ t by omega)
              have hft : f ≤ t := by omega
              have htn : t ≤ nd := by omega
              have p2' : decide (t < f) = false := by simp; omega
              have p3' : decide (nd < t) = false := by simp; omega
              go_wp2_with fail
              clear p1 p2 p3 p2' p3' h1 h2 h3 hlt d0 d0' hi
              have hq := HQ.out
              subst hq
              have HAE : Hid (sprD col diff dsts f t = sprR col diff dsts f (t - f) n3) := Lib.hid (by
                unfold sprD sprL
                rw [if_pos HE.out, show ((t : Int) - (f : Int)).toNat = t - f by omega, Int.toNat_natCast, L3.out])
              have HTL : Hid (∀ r, r < n3 → t ≤ (dsts.getD r []).length) := Lib.hid (fun r hr => by rw [HALL.out r (by omega)]; exact htn)
              have HTN := Lib.hid htn
              clear HALL HOKS HR H6 HNO hin
              go_loopw [54] (fun vi wq => ∃ (r : Nat) (T' : TT), r ≤ n3 ∧ vi = .int .i64 r ∧ keyT T' = keyT T ∧ okT T' ∧ liT T' = sprR col diff dsts f (t - f) r ∧ St w wq [] (G ++ enT T')) (fun vi _ => n3 - (intOf vi).toNat)
              case atStart => exact ⟨0, T, by omega, rfl, rfl, CT.out.2.2, HLI.out, SS.out⟩
              case round =>
                clear SS
                obtain ⟨r, T', hr, rfl, hkey, hok, hlt', hs⟩ := hrel
                have S20 := Lib.hid hs; have HKEY := Lib.hid hkey; have HOK := Lib.hid hok; have HLT := Lib.hid hlt'; clear hs hkey hok hlt'
                have CT' := Lib.hid (CT.out.key HKEY.out HOK.out)
                by_cases hlt : r < n3
                · have i1 : (r : Int) < (n3 : Int) := by omega
                  obtain ⟨P, b, D, m, Q, hT, hPl⟩ := split_T (T := T') (i := r) (by rw [CT'.out.1]; exact hlt)
                  have hget : T'[r]? = some (b, D, m) := by rw [hT, List.getElem?_append_right (by omega), hPl]; simp
                  obtain ⟨hb, ho, eA, hcell⟩ := CT'.out.hdr hget S20.out (fun e he => List.mem_append_left _ he)
                  subst eA
                  obtain ⟨vs, hvs⟩ : ∃ vs, Hid (((List.range (t - f)).map fun u => (dsts.getD r []).getD (f + u) 0 ^^^ gm (col.getD r 0) (diff.getD (f + u) 0)) = vs) := ⟨_, Lib.hid rfl⟩
                  have hm : (dsts.getD r []).length = m := by
                    have e1 : (liT T').getD r [] = dsts.getD r [] := by rw [HLT.out]; rw [sprR_get, if_neg (by omega)]
                    have e2 : (liT T').getD r [] = D.take m := by unfold liT; rw [List.getD_eq_getElem?_getD, List.getElem?_map, hget]; rfl
                    rw [← e1, e2, List.length_take]
                    have := (HOK.out (b, D, m) (by rw [hT]; simp)).1
                    dsimp only at this; omega
                  have htm : t ≤ m := by rw [← hm]; exact HTL.out r hlt
                  have htb : t ≤ 140737488351232 := by have := F3.out.get r; omega
                  have hmD : m ≤ D.length := (HOK.out (b, D, m) (by rw [hT]; simp)).1
                  have hvl : vs.length = t - f := by rw [← hvs.out]; simp
                  have hv8 : B8 vs := by rw [← hvs.out]; exact sprv_b8 B1.out B3.out
                  have HST := Lib.hid (row_step (vs := vs) (f := f) hT hPl HLT.out HOK.out (by rw [hvl]; omega) hv8)
                  have HVL := Lib.hid hvl
                  obtain ⟨PR, HPR⟩ : ∃ X, Hid (G ++ enT P = X) := ⟨_, Lib.hid rfl⟩
                  have S21 : Hid (St w wr [] (PR ++ bt b D :: enT Q)) := Lib.hid (by
                    have := S20.out
                    rw [hT] at this
                    rw [← HPR.out, List.append_assoc]
                    simpa [enT] using this)
                  have HGP : Hid (∀ X, ∀ e ∈ G, e ∈ PR ++ bt b X :: enT Q) := Lib.hid (fun X e he => by rw [← HPR.out]; simp [he])
                  have HNX : Hid (∀ w', St w w' [] (PR ++ bt b (Wr.wr D f vs) :: enT Q) → ∃ T2, keyT T2 = keyT T ∧ okT T2 ∧ liT T2 = sprR col diff dsts f (t - f) (r + 1) ∧ St w w' [] (G ++ enT T2)) := Lib.hid (fun w' h => by
                    refine ⟨P ++ (b, Wr.wr D f vs, m) :: Q, HST.out.1.trans HKEY.out, HST.out.2.1, ?_, ?_⟩
                    · rw [HST.out.2.2.1, ← hvs.out]
                      show _ = (sprR col diff dsts f (t - f) r).set r (Wr.wr (dsts.getD r []) f ((List.range (t - f)).map fun u => (dsts.getD r []).getD (f + u) 0 ^^^ gm (col.getD r 0) (diff.getD (f + u) 0)))
                      rw [sprR_get, if_neg (by omega)]
                    · rw [← HPR.out, List.append_assoc] at h
                      simpa [enT] using h)
                  have HVG : Hid (∀ p, f ≤ p → p < t → vs.getD (p - f) 0 = (dsts.getD r []).getD p 0 ^^^ gm (col.getD r 0) (diff.getD p 0)) := Lib.hid (fun p h1 h2 => by
                    have e : f + (p - f) = p := by omega
                    rw [← hvs.out]
                    simp [show p - f < t - f by omega, e])
                  have HDR : Hid (dsts.getD r [] = D.take m) := Lib.hid (by rw [← HST.out.2.2.2]; rw [sprR_get, if_neg (by omega)])
                  have HKK := Lib.hid hcell
                  have hc := get_lt B1.out r
                  have H8 := Lib.hid (B3.out.get r)
                  clear hcell hvs
                  clear S20 HST hT hget HPR
                  go_wp2_with fail
                  go_loopw [16] (fun vi wq => ∃ p : Nat, f ≤ p ∧ p ≤ t ∧ vi = .int .i64 p ∧ St w wq [] (PR ++ bt b (Wr.wr D f (vs.take (p - f))) :: enT Q)) (fun vi _ => t - (intOf vi).toNat)
                  case atStart => exact ⟨f, Nat.le_refl _, hft, rfl, by rw [Nat.sub_self]; exact S21.out⟩
                  case round =>
                    clear S21
                    obtain ⟨p, hfp, hpt, rfl, hs⟩ := hrel
                    have S22 := Lib.hid hs; clear hs
                    by_cases hp : p < t
                    · have p1 : (p : Int) < (t : Int) := by omega
                      have HS : Hid (Wr.wr D f (vs.take (p + 1 - f)) = (Wr.wr D f (vs.take (p - f))).set p (vs.getD (p - f) 0)) := Lib.hid (by
                        have := wr_take_succ (D := D) (o := f) (vs := vs) (i := p - f) (by rw [HVL.out]; omega)
                        rw [show f + (p - f) = p by omega, show p - f + 1 = p + 1 - f by omega] at this
                        exact this)
                      have hpD : p < (Wr.wr D f (vs.take (p - f))).length := by rw [wr_length]; omega
                      have HV := Lib.hid (HVG.out p hfp hp)
                      have pm1 : (p : Int) < (m : Int) := by omega
                      have pd1 : (p : Int) < (nd : Int) := by have := HTN.out; omega
                      have x6 := HKK.out _ _ S22.out (HGP.out _)
                      have my := (S22.out.blk (by simp : bt b (Wr.wr D f (vs.take (p - f))) ∈ _)).cellRow (i := p) hpD
                      have fy := (S22.out.blk (by simp : bt b (Wr.wr D f (vs.take (p - f))) ∈ _)).free (i := p)
                      have hold : (Wr.wr D f (vs.take (p - f))).getD p 0 = (dsts.getD r []).getD p 0 := by
                        rw [List.getD_eq_getElem?_getD, Wr.wr_get _ _ _ _ (by rw [List.length_take, HVL.out]; omega), if_neg (by rw [List.length_take, HVL.out]; omega), HDR.out, List.getD_eq_getElem?_getD, List.getElem?_take, if_pos (by omega)]
                      rw [hold] at my
                      obtain ⟨cb, co, eC, kc⟩ := (S22.out.ext R1.out) (by rw [L1.out]; omega)
                      have xc := kc r (by rw [L1.out]; exact hlt)
                      obtain ⟨db, dof, eD, kd⟩ := (S22.out.ext R2.out) (by rw [L2.out]; have := HTN.out; omega)
                      have xd := kd p (by rw [L2.out]; have := HTN.out; omega)
                      have vd := get_lt B2.out p
                      have vo := get_lt H8.out p
                      rw [HV.out] at HS
                      subst eC eD
                      clear kc kd hold
                      generalize (dsts.getD r []).getD p 0 = y at *
                      generalize col.getD r 0 = c at *
                      generalize diff.getD p 0 = x at *
                      have x1 : Go.bits .xor .u8 (y : Int) ((gm c x : Nat) : Int) = ((y ^^^ gm c x : Nat) : Int) := Bt.xor8 vo (gm_lt x hc)
                      go_wp2_with fail
                      go_region_law ((go_simp; go_at_call 46; refine (Go.Proofs.Ytdbfkjhdnbmpeaa.R2.mul_calls c x _ hc vd).mono ?_; rintro e w' ⟨rfl, rfl⟩))
                      all_goals
                        clear x1 my fy x6 xc xd
                        have h9 := (S22.out.setRow p (y ^^^ gm c x)).drew
                        rw [← HS.out] at h9
                        have S25 := Lib.hid h9
                        clear h9
                        go_wp2_with fail
                        exact ⟨⟨p + 1, by omega, by omega, by simp, S25.out⟩, by simp [intOf]; omega⟩
                    · obtain rfl : p = t := by omega
                      have e : vs.take (p - f) = vs := List.take_of_length_le (by rw [HVL.out]; exact Nat.le_refl _)
                      rw [e] at S22
                      obtain ⟨T2, k1, k2, k3, k4⟩ := HNX.out _ S22.out
                      have K4 := Lib.hid k4; have K3 := Lib.hid k3; have K2 := Lib.hid k2; have K1 := Lib.hid k1
                      clear k1 k2 k3 k4 e
                      go_wp2_with fail
                      exact ⟨⟨r + 1, T2, by omega, by simp, K1.out, K2.out, K3.out, K4.out⟩, by simp [intOf]; omega⟩
                · obtain rfl : r = n3 := by omega
                  go_wp2_with fail
                  go_ret2
                  first
                    | exact ⟨_, cO, T', G, (by rfl), CT'.out, HLT.out.trans HAE.out.symm, S20.out⟩
                    | exact ⟨_, cO, (by rfl), T', G, CT'.out, HLT.out.trans HAE.out.symm, S20.out⟩
  · have q1 : (nc == n3) = false := by simpa using (fun h => hcn h.symm)
    have q2 : (((nc : Nat) : Int) != ((n3 : Nat) : Int)) = true := by rw [bne_iff_ne]; omega
    have q3 : (nc != n3) = true := by rw [bne_iff_ne]; exact fun h => hcn h.symm
    have HQ : Hid (E = 6) := Lib.hid (H6.out fun h => hcn (by rw [← L1.out, ← L3.out]; exact h.1.symm))
    clear hcn
    go_wp2_with fail
    go_ret2
    have hq := HQ.out
    subst hq
    first
      | exact ⟨AO, cO, T, G, (by rfl), CT.out, by rw [HLI.out, HNO.out (by decide)], SS.out⟩
      | exact ⟨AO, cO, (by rfl), T, G, CT.out, by rw [HLI.out, HNO.out (by decide)], SS.out⟩

end Go.Proofs.Ytdbfkjhdnbmpeaa.Sk
