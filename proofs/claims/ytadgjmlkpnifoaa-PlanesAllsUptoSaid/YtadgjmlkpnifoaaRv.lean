/- Layer 8: the document's Words, Bytes, Split and Merge (culletref08). -/
import Derived.Test.YtadgjmlkpnifoaaLt
import Derived.Deep.RegionHeld3
namespace Go.Proofs.Ytadgjmlkpnifoaa.Pq
set_option linter.unusedSimpArgs false
set_option linter.unusedVariables false
open Go Go.RowKit Go.Proofs.Ytadgjmlkpnifoaa Go.Proofs.Ytadgjmlkpnifoaa.Mm Go.Proofs.Ytadgjmlkpnifoaa.Gh Go.Proofs.Ytadgjmlkpnifoaa.Wr Go.Proofs.Ytadgjmlkpnifoaa.St

set_option maxRecDepth 100000 in
theorem word_r {A : Option Addr} {n cp t : Nat} {l : List Nat} (w : World) (hl : l.length = n) (hr : Rd w A l) (h8 : B8 l) (ht : 2 * t + 1 < n) (hn : n ≤ 140737488351232) :
    Calls Try.prog 59 #[.slice A n cp, .int .i64 (t : Int)] w fun e w' => e = .returned (.int .u16 ((wd l t : Nat) : Int)) ∧ ∃ k, w' = w.drewN k := by
  obtain ⟨b0, o0, eA, k0⟩ := hr (by omega)
  subst eA
  have x1 := h8.get (i := 2 * t) (by omega)
  have x2 := h8.get (i := 2 * t + 1) (by omega)
  have c1 := k0 (2 * t) (by omega)
  have c2 := k0 (2 * t + 1) (by omega)
  unfold wd
  generalize l.getD (2 * t) 0 = y1 at *
  generalize l.getD (2 * t + 1) 0 = y2 at *
  have i1 : 2 * (t : Int) + 1 < (n : Int) := by omega
  have i2 : 2 * (t : Int) < (n : Int) := by omega
  have i3 : IntKind.i64.wrap (2 * (t : Int) + 1) = 2 * (t : Int) + 1 := IntWalk.i64_in _ (by omega)
  have i3' : IntKind.i64.wrap (2 * (t : Int)) = 2 * (t : Int) := IntWalk.i64_in _ (by omega)
  have i4 : (0 : Int) ≤ 2 * (t : Int) := by omega
  have i5 : (0 : Int) ≤ 2 * (t : Int) + 1 := by omega
  have i6 : (2 * (t : Int)).toNat = 2 * t := by omega
  have i7 : (2 * (t : Int) + 1).toNat = 2 * t + 1 := by omega
  have e1 : (y1 : Int) + 256 * (y2 : Int) = ((y1 + 256 * y2 : Nat) : Int) := by omega
  have e2 : (256 * (y2 : Int)) % 65536 = 256 * (y2 : Int) := by omega
  have e3 : ((y1 : Int) + 256 * (y2 : Int)) % 65536 = ((y1 + 256 * y2 : Nat) : Int) := by omega
  have e4 : IntKind.u16.wrap (IntKind.u16.wrap (y1 : Int) + IntKind.u16.wrap (256 * IntKind.u16.wrap (y2 : Int))) = ((y1 + 256 * y2 : Nat) : Int) := by
    rw [Bt.wrap_u16 (y1 : Int) (by omega) (by omega), Bt.wrap_u16 (y2 : Int) (by omega) (by omega), Bt.wrap_u16 (256 * (y2 : Int)) (by omega) (by omega), Bt.wrap_u16 _ (by omega) (by omega)]
    omega
  have E4 := Lib.hid e4
  clear k0 hr h8 hl ht e4
  go_enter Try.func59, Try.ntmps59
  go_wp2_with fail
  go_quiet (fail)
  go_wp2_with fail
  go_ret
  first
  | exact ⟨congrArg (fun z => Ending.returned (Value.int .u16 z)) e1, _, rfl⟩
  | exact ⟨congrArg (fun z => Ending.returned (Value.int .u16 z)) E4.out, _, rfl⟩

theorem rwords_odd (A : Option Addr) (n cp : Nat) (w : World) (h : n % 2 = 1) : Calls Try.prog 53 #[.slice A n cp] w fun e w' => e = .returned (.tuple #[.slice none 0 0, .int .i64 8]) ∧ w = w' := by
  have h1 : (((n : Nat) : Int) % 2 != 0) = true := by rw [bne_iff_ne]; omega
  have h2 : (((n : Nat) : Int).tmod 2 != 0) = true := by rw [bne_iff_ne, Int.tmod_eq_emod_of_nonneg (by omega)]; omega
  clear h
  go_enter Try.func53, Try.ntmps53
  go_wp2
  go_ret2
  exact ⟨rfl, rfl⟩

theorem ws_take {l : List Nat} {t : Nat} (h : t < l.length / 2) : (ws l).take (t + 1) = (ws l).take t ++ [wd l t] := take_snoc (by rw [ws_get h])

set_option maxRecDepth 100000 in
set_option maxHeartbeats 4000000 in
theorem rwords_st {A : Option Addr} {n cp : Nat} {l : List Nat} {w : World} (hl : l.length = n) (h2 : n % 2 = 0) (hn : n ≤ 140737488351232) (hr : Rd w A l) (h8 : B8 l) :
    Calls Try.prog 53 #[.slice A n cp] w fun e w' => ∃ v G, e = .returned (.tuple #[v, .int .i64 0]) ∧ GrowV e16 23 v (ws l) G ∧ St w w' [] G := by
  have HL := Lib.hid hl; have HR := Lib.hid hr; have H8 := Lib.hid h8
  have g1 : (((n : Nat) : Int) % 2 != 0) = false := by rw [bne_eq_false_iff_eq]; omega
  have g2 : (((n : Nat) : Int).tmod 2 != 0) = false := by rw [bne_eq_false_iff_eq, Int.tmod_eq_emod_of_nonneg (by omega)]; omega
  obtain ⟨q, hq⟩ : ∃ q, n / 2 = q := ⟨_, rfl⟩
  have HQ := Lib.hid (show n = 2 * q by omega)
  clear hl hr h8 h2 hq
  have S0 := Lib.hid (St.start w)
  go_enter Try.func53, Try.ntmps53
  go_wp2_with fail
  clear g1 g2
  go_loopw [4, 5] (fun v vi wr => ∃ (t : Nat) (G : List Ent), 2 * t ≤ n ∧ vi = .int .i64 (t : Int) ∧ St w wr [] G ∧ GrowV e16 23 v ((ws l).take t) G) (fun _ vi _ => n - (intOf vi).toNat)
  case atStart => exact ⟨0, [], by omega, rfl, S0.out, GrowV.nil⟩
  case round =>
    clear S0
    obtain ⟨t, G, ht, rfl, hs, hg⟩ := hrel
    have S1 := Lib.hid hs; have HG := Lib.hid hg; clear hs hg
    by_cases hlt : 2 * t < n
    · have hqn := HQ.out
      have HT := Lib.hid (ws_take (l := l) (t := t) (by rw [HL.out]; omega))
      have HLn : Hid (((ws l).take t).length = t) := Lib.hid (by rw [List.length_take, ws_length, HL.out]; omega)
      have i1 : 2 * (t : Int) < (n : Int) := by omega
      have ht1 : 2 * t + 1 < n := by omega
      obtain ⟨y, HY⟩ : ∃ y, Hid (wd l t = y) := ⟨_, Lib.hid rfl⟩
      have WC : Hid (∀ (wx : World), Rd wx A l → Calls Try.prog 59 #[.slice A n cp, .int .i64 (t : Int)] wx fun e w' => e = .returned (.int .u16 ((y : Nat) : Int)) ∧ ∃ k, w' = wx.drewN k) := Lib.hid (fun wx hrx => by
        have := word_r (cp := cp) wx HL.out hrx H8.out ht1 hn
        rw [HY.out] at this; exact this)
      rw [HY.out] at HT
      clear hqn
      go_wp2_with fail
      refine (WC.out _ (S1.out.ext HR.out)).mono ?_
      rintro e _ ⟨rfl, n2, rfl⟩
      have h2 := S1.out.drewN (n := n2); clear S1
      have S2 := Lib.hid h2; clear h2
      go_wp2_with ((with_reducible refine at_slot (N := 23) rfl ?_); refine append_v (enc := e16) (N := []) (G := G) rfl _ _ _ rfl 0 2 Try.underlying36 info_u16 rfl (fun _ => rfl) _ _ rfl (St.nilr (S2.out.skip (t := 23) (c := cellsV e16 [y]))) HG.out (some ⟨wr.heap.size, 0, none⟩) 1 1 [y] rfl rfl (RdV.of_blk (Blk.new (wr.drewN n2) _ _)) (by rw [HLn.out]; show (t + 1) * 2 ≤ _; omega) (by rw [HLn.out]; show t + 1 ≤ _; unfold maxLen; omega) ?_; intro v' w3 G' h3 hg' hz; have HG' := Lib.hid hg'; clear hg' hz HG; (try simp only [World.size_alloc, List.nil_append, List.cons_append, List.append_eq] at h3); have S3 := Lib.hid h3; clear h3 S2)
      refine ⟨⟨t + 1, G', by omega, by simp, by have := S3.out; rw [List.append_nil] at this; exact this, ?_⟩, ?_⟩
      · rw [HT.out]; exact HG'.out
      · simp [intOf]; omega
    · have hqn := HQ.out
      obtain rfl : t = q := by omega
      rw [List.take_of_length_le (by rw [ws_length, HL.out]; omega)] at HG
      clear hqn
      go_wp2_with fail
      go_ret2
      exact ⟨_, G, rfl, HG.out, S1.out⟩

set_option maxRecDepth 100000 in
set_option maxHeartbeats 4000000 in
theorem rbytes_st {A : Option Addr} {n cp : Nat} {l : List Nat} {w : World} (hl : l.length = n) (hn : n * 2 ≤ 140737488351232) (hr : RdV e16 w A l) (h16 : W16 l) :
    Calls Try.prog 54 #[.slice A n cp] w fun e w' => ∃ v G, e = .returned v ∧ GrowB v (bs l) G ∧ St w w' [] G := by
  have HL := Lib.hid hl; have HR := Lib.hid hr; have H16 := Lib.hid h16
  have hCb : 2 * n ≤ 140737488351232 := by omega
  clear hl hr h16
  have S0 := Lib.hid (St.start w)
  go_enter Try.func54, Try.ntmps54
  go_wp2_with fail
  go_loopw [3, 4] (fun v vi wr => ∃ (i : Nat) (G : List Ent), i ≤ n ∧ vi = .int .i64 i ∧ GrowB v (bs (l.take i)) G ∧ St w wr [] G) (fun _ vi _ => n - (intOf vi).toNat)
  case atStart => exact ⟨0, _, by omega, rfl, GrowB.nil, S0.out⟩
  case round =>
    clear S0
    obtain ⟨i, G, hi, rfl, hg, hs⟩ := hrel
    have S2 := Lib.hid hs; have HG := Lib.hid hg; clear hs hg
    by_cases hlt : i < n
    · obtain ⟨x, hx⟩ : ∃ x, l[i]? = some x := ⟨l[i]'(by rw [HL.out]; exact hlt), by simp⟩
      obtain ⟨b2, o2, eA, hsrc⟩ := (S2.out.extV HR.out) (by rw [HL.out]; omega)
      subst eA
      have m1 : wr.cell? ⟨b2, o2 + i, none⟩ = some (.int .u16 (x : Int)) := hsrc i x hx
      have hx16 := H16.out x (List.mem_of_getElem? hx)
      have HT := Lib.hid (take_snoc hx)
      have HB8 : Hid (B8 [x % 256, x / 256]) := Lib.hid (fun y hy => by simp at hy; rcases hy with rfl | rfl <;> omega)
      have HLT : Hid ((bs (l.take i)).length = 2 * i) := Lib.hid (by rw [bs_length, List.length_take, HL.out]; omega)
      have HCC : Hid (∀ w' : World, St w w' [] [] → w'.cell? ⟨b2, o2 + i, none⟩ = some (.int .u16 (x : Int))) := Lib.hid (fun w' hb => by
        obtain ⟨_, _, e, c1⟩ := (hb.extV HR.out) (by rw [HL.out]; omega)
        injection e with e; injection e with e1 e2 _; subst e1 e2
        exact c1 i x hx)
      clear hsrc hx
      obtain ⟨y1, hy1⟩ : ∃ y1, y1 = x % 256 := ⟨_, rfl⟩
      obtain ⟨y2, hy2⟩ : ∃ y2, y2 = x / 256 := ⟨_, rfl⟩
      have k0 : (x : Int) % 256 = (y1 : Int) := by omega
      have k1 : (x : Int) / 256 = (y2 : Int) := by omega
      have k2 : Int.tmod (x : Int) 256 = (y1 : Int) := by rw [Int.tmod_eq_emod_of_nonneg (by omega)]; exact k0
      have k3 : Int.tdiv (x : Int) 256 = (y2 : Int) := by rw [Int.tdiv_eq_ediv_of_nonneg (by omega)]; exact k1
      have b1 : y2 < 256 := by omega
      have b0 : y1 < 256 := by omega
      have HE : Hid (bs (l.take (i + 1)) = bs (l.take i) ++ [y1, y2]) := Lib.hid (by rw [HT.out, bs_snoc, hy1, hy2])
      rw [← hy1, ← hy2] at HB8
      clear hy1 hy2 HT
      have w1 : IntKind.u8.wrap (y1 : Int) = (y1 : Int) := Bt.wu8 b0
      have w2 : IntKind.u16.wrap (y2 : Int) = (y2 : Int) := Bt.wrap_u16 _ (by omega) (by omega)
      have w3 : IntKind.u8.wrap (y2 : Int) = (y2 : Int) := Bt.wu8 b1
      have HW := Lib.hid (And.intro w1 (And.intro w2 w3))
      have iq : (i : Int) < (n : Int) := by omega
      have S3 := Lib.hid S2.out.drew; clear S2
      have L1 := cell_lt m1
      simp only at L1
      go_wp2_with fail
      go_region_held3 (fun w' => w'.cell? ⟨b2, o2 + i, none⟩ = some (.int .u16 (x : Int))) (first | go_keep | exact HCC.out _ S4.out.nil) (first
        | (refine step_append (N := []) (G := G) (by rfl) _ _ (by rfl) _ (bs (l.take i)) (by rfl) (by first | exact St.nilr (S3.out.skip) | exact St.nilr S3.out) HG.out (some ⟨wr.heap.size, 0, none⟩) 2 2 [y1, y2] (by rfl) (by rfl) (by first | exact Rd.of_blk (Blk.new wr.drew _ _) | exact Rd.of_blk (Blk.new wr _ _).drew | exact Rd.of_blk (by have := (Blk.new wr 5 (row .u8 [y1, y2])).drew; rw [HW.out.2.1, HW.out.1, HW.out.2.2]; exact this)) HB8.out (by rw [HLT.out]; show 2 * i + 2 ≤ _; omega) ?_; intro v' w4 G' hs hg' hz; have HG' := Lib.hid hg'; rw [List.append_nil] at hs; have S4 := Lib.hid hs; clear hg' hz HG hs))
      clear k0 k1 k2 k3
      go_wp2_with fail
      refine ⟨⟨i + 1, G', by omega, by simp, ?_, S4.out⟩, ?_⟩
      · rw [HE.out]; exact HG'.out
      · simp [intOf]; omega
    · obtain rfl : i = n := by omega
      rw [List.take_of_length_le (by rw [HL.out]; exact Nat.le_refl _)] at HG
      go_wp2_with fail
      go_ret
      exact ⟨_, G, rfl, HG.out, S2.out⟩

theorem rsplit_odd (A : Option Addr) (n cp : Nat) (w : World) (h : n % 2 = 1) : Calls Try.prog 55 #[.slice A n cp] w fun e w' => e = .returned (.tuple #[.slice none 0 0, .slice none 0 0, .int .i64 8]) ∧ w = w' := by
  have h1 : (((n : Nat) : Int) % 2 != 0) = true := by rw [bne_iff_ne]; omega
  have h2 : (((n : Nat) : Int).tmod 2 != 0) = true := by rw [bne_iff_ne, Int.tmod_eq_emod_of_nonneg (by omega)]; omega
  clear h
  go_enter Try.func55, Try.ntmps55
  go_wp2_with fail
  go_ret3
  exact ⟨rfl, rfl⟩

theorem rmerge_ne (A1 A2 : Option Addr) (n m c1 c2 : Nat) (w : World) (h : n ≠ m) : Calls Try.prog 56 #[.slice A1 n c1, .slice A2 m c2] w fun e w' => e = .returned (.tuple #[.slice none 0 0, .int .i64 6]) ∧ w = w' := by
  have h1 : (n == m) = false := by simpa using h
  have h2 : (((n : Nat) : Int) != ((m : Nat) : Int)) = true := by rw [bne_iff_ne]; omega
  have h3 : (n != m) = true := by rw [bne_iff_ne]; exact h
  clear h
  go_enter Try.func56, Try.ntmps56
  go_wp2
  go_ret2
  exact ⟨rfl, rfl⟩

set_option maxRecDepth 100000 in
set_option maxHeartbeats 4000000 in
theorem rmerge_st {A1 A2 : Option Addr} {n c1 c2 : Nat} {l h : List Nat} {w : World} (hl : l.length = n) (hh : h.length = n) (hn : n ≤ 70368744175616) (hr1 : Rd w A1 l) (hr2 : Rd w A2 h) (h81 : B8 l) (h82 : B8 h) :
    Calls Try.prog 56 #[.slice A1 n c1, .slice A2 n c2] w fun e w' => ∃ v G, e = .returned (.tuple #[v, .int .i64 0]) ∧ GrowB v (mg l h n) G ∧ St w w' [] G := by
  have HL := Lib.hid hl; have HH := Lib.hid hh; have HR1 := Lib.hid hr1; have HR2 := Lib.hid hr2; have H81 := Lib.hid h81; have H82 := Lib.hid h82
  clear hl hh hr1 hr2 h81 h82
  have S0 := Lib.hid (St.start w)
  go_enter Try.func56, Try.ntmps56
  go_wp2_with fail
  go_loopw [6, 7] (fun v vi wr => ∃ (i : Nat) (G : List Ent), i ≤ n ∧ vi = .int .i64 i ∧ GrowB v (mg l h i) G ∧ St w wr [] G) (fun _ vi _ => n - (intOf vi).toNat)
  case atStart => exact ⟨0, _, by omega, rfl, GrowB.nil, S0.out⟩
  case round =>
    clear S0
    obtain ⟨i, G, hi, rfl, hg, hs⟩ := hrel
    have S2 := Lib.hid hs; have HG := Lib.hid hg; clear hs hg
    by_cases hlt : i < n
    · obtain ⟨b1, o1, e1, k1⟩ := (S2.out.ext HR1.out) (by rw [HL.out]; omega)
      obtain ⟨b2, o2, e2, k2⟩ := (S2.out.ext HR2.out) (by rw [HH.out]; omega)
      subst e1 e2
      have m1 := k1 i (by rw [HL.out]; exact hlt)
      have m2 := k2 i (by rw [HH.out]; exact hlt)
      have x1 := H81.out.get (i := i) (by rw [HL.out]; omega)
      have x2 := H82.out.get (i := i) (by rw [HH.out]; omega)
      have HT := Lib.hid (mg_succ l h i)
      have HM := Lib.hid (mg_length l h i)
      generalize hY1 : l.getD i 0 = y1 at *
      generalize hY2 : h.getD i 0 = y2 at *
      have HB8 : Hid (B8 [y1, y2]) := Lib.hid (fun y hy => by simp at hy; rcases hy with rfl | rfl <;> omega)
      have iq : (i : Int) < (n : Int) := by omega
      clear k1 k2
      have S3 := Lib.hid S2.out.drew; clear S2
      have HCC : Hid (∀ w' : World, St w w' [] [] → w'.cell? ⟨b1, o1 + i, none⟩ = some (.int .u8 (y1 : Int)) ∧ w'.cell? ⟨b2, o2 + i, none⟩ = some (.int .u8 (y2 : Int))) := Lib.hid (fun w' hb => by
        rw [← hY1, ← hY2]
        obtain ⟨_, _, e, c1⟩ := (hb.ext HR1.out) (by rw [HL.out]; omega)
        injection e with e; injection e with e1 e2 _; subst e1 e2
        obtain ⟨_, _, e, c2⟩ := (hb.ext HR2.out) (by rw [HH.out]; omega)
        injection e with e; injection e with e1 e2 _; subst e1 e2
        exact ⟨c1 i (by rw [HL.out]; exact hlt), c2 i (by rw [HH.out]; exact hlt)⟩)
      clear hY1 hY2
      have L1 := cell_lt m1
      have L2 := cell_lt m2
      simp only at L1 L2
      go_wp2_with fail
      go_region_held3 (fun w' => w'.cell? ⟨b1, o1 + i, none⟩ = some (.int .u8 (y1 : Int)) ∧ w'.cell? ⟨b2, o2 + i, none⟩ = some (.int .u8 (y2 : Int))) (first | go_keep | exact HCC.out _ S4.out.nil) (first
        | (refine step_append (N := []) (G := G) (by rfl) _ _ (by rfl) _ (mg l h i) (by rfl) (by first | exact St.nilr (S3.out.skip) | exact St.nilr S3.out) HG.out (some ⟨wr.heap.size, 0, none⟩) 2 2 [y1, y2] (by rfl) (by rfl) (by first | exact Rd.of_blk (Blk.new wr.drew _ _) | exact Rd.of_blk (Blk.new wr _ _).drew) HB8.out (by rw [HM.out]; show 2 * i + 2 ≤ _; omega) ?_; intro v' w4 G' hs hg' hz; have HG' := Lib.hid hg'; rw [List.append_nil] at hs; have S4 := Lib.hid hs; clear hg' hz HG hs))
      go_wp2_with fail
      refine ⟨⟨i + 1, G', by omega, by simp, ?_, S4.out⟩, ?_⟩
      · rw [HT.out]; exact HG'.out
      · simp [intOf]; omega
    · obtain rfl : i = n := by omega
      go_wp2_with fail
      go_ret2
      exact ⟨_, G, rfl, HG.out, S2.out⟩

set_option maxRecDepth 100000 in
set_option maxHeartbeats 4000000 in
theorem rsplit_st {A : Option Addr} {n cp : Nat} {l : List Nat} {w : World} (hl : l.length = n) (h2 : n % 2 = 0) (hn : n ≤ 140737488351232) (hr : Rd w A l) (h8 : B8 l) :
    Calls Try.prog 55 #[.slice A n cp] w (SplitR w l) := by
  have HL := Lib.hid hl; have HR := Lib.hid hr; have H8 := Lib.hid h8
  have g1 : (((n : Nat) : Int) % 2 != 0) = false := by rw [bne_eq_false_iff_eq]; omega
  have g2 : (((n : Nat) : Int).tmod 2 != 0) = false := by rw [bne_eq_false_iff_eq, Int.tmod_eq_emod_of_nonneg (by omega)]; omega
  obtain ⟨q, hq⟩ : ∃ q, n / 2 = q := ⟨_, rfl⟩
  have HQ := Lib.hid (show n = 2 * q by omega)
  clear hl hr h8 h2 hq
  have S0 := Lib.hid (St.start w)
  go_enter Try.func55, Try.ntmps55
  go_wp2_with fail
  clear g1 g2
  go_loopw [5, 6, 7] (fun v1 v2 vi wr => ∃ (t : Nat) (G1 G2 : List Ent), t ≤ n ∧ vi = .int .i64 (t : Int) ∧ St w wr [] (G2 ++ G1) ∧ GrowB v1 ((lo l).take ((t + 1) / 2)) G1 ∧ GrowB v2 ((hi l).take (t / 2)) G2) (fun _ _ vi _ => n - (intOf vi).toNat)
  case atStart => exact ⟨0, [], [], by omega, rfl, S0.out, GrowB.nil, GrowB.nil⟩
  case round =>
    clear S0
    obtain ⟨t, G1, G2, ht, rfl, hs, hg1, hg2⟩ := hrel
    have S1 := Lib.hid hs; have HG1 := Lib.hid hg1; have HG2 := Lib.hid hg2; clear hs hg1 hg2
    by_cases hlt : t < n
    · have hqn := HQ.out
      obtain ⟨b0, o0, eA, hc0⟩ := (S1.out.ext HR.out) (by rw [HL.out]; omega)
      subst eA
      have m1 := hc0 t (by rw [HL.out]; omega)
      have x1 := H8.out.get (i := t) (by rw [HL.out]; omega)
      have iq : (t : Int) < (n : Int) := by omega
      have i0 : (0 : Int) ≤ (t : Int) := by omega
      rcases Nat.mod_two_eq_zero_or_one t with he | ho
      · obtain ⟨u, hu⟩ : ∃ u, t = 2 * u := ⟨t / 2, by omega⟩
        have HT1 := Lib.hid (lo_take (l := l) (t := u) (by rw [HL.out]; omega))
        have HL1 : Hid (((lo l).take u).length = u) := Lib.hid (by rw [List.length_take, lo_length, HL.out]; omega)
        rw [show (t + 1) / 2 = u by omega] at HG1
        rw [show t / 2 = u by omega] at HG2
        rw [← hu] at HT1
        have r1 : ((t : Int) % 2 == 0) = true := by rw [beq_iff_eq]; omega
        have r2 : ((t : Int).tmod 2 == 0) = true := by rw [Int.tmod_eq_emod_of_nonneg (by omega)]; exact r1
        have E1 : Hid ((t + 1 + 1) / 2 = u + 1 ∧ (t + 1) / 2 = u) := Lib.hid (by omega)
        have HUN : Hid (u ≤ 140737488351232 - 1) := Lib.hid (by omega)
        generalize l.getD t 0 = y1 at *
        have B1 : Hid (B8 [y1]) := Lib.hid (fun y hy => by rw [List.mem_singleton] at hy; omega)
        clear hc0 x1 hu hqn
        go_wp2_with ((with_reducible refine at_slot (N := 29) rfl ?_); refine append_bytes (N := G2) (G := G1) rfl _ _ rfl _ _ rfl ((S1.out.skip (t := 5) (c := row .u8 [y1])).perm List.perm_append_comm) HG1.out (some ⟨wr.heap.size, 0, none⟩) 1 1 [y1] rfl rfl (Rd.of_blk (Blk.new wr _ _)) B1.out (by rw [HL1.out]; have := HUN.out; show u + 1 ≤ _; omega) ?_; intro v1' w2 G1' h2 hg' hz; have HG1' := Lib.hid hg'; clear hg' hz HG1; (try simp only [World.size_alloc, List.nil_append, List.cons_append, List.append_eq] at h2); have S2 := Lib.hid h2; clear h2 S1)
        refine ⟨⟨t + 1, G1', G2, by omega, by simp, S2.out.perm List.perm_append_comm, ?_, ?_⟩, ?_⟩
        · rw [E1.out.1, HT1.out]; exact HG1'.out
        · rw [E1.out.2]; exact HG2.out
        · simp [intOf]; omega
      · obtain ⟨u, hu⟩ : ∃ u, t = 2 * u + 1 := ⟨t / 2, by omega⟩
        have HT1 := Lib.hid (hi_take (l := l) (t := u) (by rw [HL.out]; omega))
        have HL1 : Hid (((hi l).take u).length = u) := Lib.hid (by rw [List.length_take, hi_length, HL.out]; omega)
        rw [show (t + 1) / 2 = u + 1 by omega] at HG1
        rw [show t / 2 = u by omega] at HG2
        rw [← hu] at HT1
        have r1 : ((t : Int) % 2 == 0) = false := by rw [beq_eq_false_iff_ne]; omega
        have r2 : ((t : Int).tmod 2 == 0) = false := by rw [Int.tmod_eq_emod_of_nonneg (by omega)]; exact r1
        have E1 : Hid ((t + 1 + 1) / 2 = u + 1 ∧ (t + 1) / 2 = u + 1) := Lib.hid (by omega)
        have HUN : Hid (u ≤ 140737488351232 - 1) := Lib.hid (by omega)
        generalize l.getD t 0 = y1 at *
        have B1 : Hid (B8 [y1]) := Lib.hid (fun y hy => by rw [List.mem_singleton] at hy; omega)
        clear hc0 x1 hu hqn
        go_wp2_with ((with_reducible refine at_slot (N := 36) rfl ?_); refine append_bytes (N := G1) (G := G2) rfl _ _ rfl _ _ rfl (S1.out.skip (t := 5) (c := row .u8 [y1])) HG2.out (some ⟨wr.heap.size, 0, none⟩) 1 1 [y1] rfl rfl (Rd.of_blk (Blk.new wr _ _)) B1.out (by rw [HL1.out]; have := HUN.out; show u + 1 ≤ _; omega) ?_; intro v2' w2 G2' h2 hg' hz; have HG2' := Lib.hid hg'; clear hg' hz HG2; (try simp only [World.size_alloc, List.nil_append, List.cons_append, List.append_eq] at h2); have S2 := Lib.hid h2; clear h2 S1)
        refine ⟨⟨t + 1, G1, G2', by omega, by simp, S2.out, ?_, ?_⟩, ?_⟩
        · rw [E1.out.1]; exact HG1.out
        · rw [E1.out.2, HT1.out]; exact HG2'.out
        · simp [intOf]; omega
    · have hqn := HQ.out
      obtain rfl : t = n := by omega
      rw [List.take_of_length_le (by rw [lo_length, HL.out]; omega)] at HG1
      rw [List.take_of_length_le (by rw [hi_length, HL.out]; omega)] at HG2
      clear hqn
      go_wp2_with fail
      go_ret3
      exact ⟨_, _, G1, G2, rfl, HG1.out, HG2.out, S1.out⟩

end Go.Proofs.Ytadgjmlkpnifoaa.Pq
