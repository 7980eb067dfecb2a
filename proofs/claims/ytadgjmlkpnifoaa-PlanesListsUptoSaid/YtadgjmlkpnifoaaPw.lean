/- Layer 8 (planes): Words, Bytes, Split, Merge. -/
import Derived.Test.YtadgjmlkpnifoaaPm
import Derived.Test.YtadgjmlkpnifoaaGv
import Derived.Test.YtadgjmlkpnifoaaKk
import Derived.Deep.RegionHeld3
namespace Go.Proofs.Ytadgjmlkpnifoaa.Pq
set_option linter.unusedSimpArgs false
set_option linter.unusedVariables false
open Go Go.RowKit Go.Proofs.Ytadgjmlkpnifoaa Go.Proofs.Ytadgjmlkpnifoaa.Mm Go.Proofs.Ytadgjmlkpnifoaa.Gh Go.Proofs.Ytadgjmlkpnifoaa.Wr Go.Proofs.Ytadgjmlkpnifoaa.St

theorem info_u16 : (Try.prog.info? 23).map (fun i => (i.zero, i.size, i.bytes)) = some (some (.int .u16 0), 1, 2) := by kernel_rfl

/-- The words of a shard. -/
def ws (l : List Nat) : List Nat := (List.range (l.length / 2)).map (wd l)
theorem ws_length (l : List Nat) : (ws l).length = l.length / 2 := by simp [ws]
theorem ws_get {l : List Nat} {t : Nat} (h : t < l.length / 2) : (ws l)[t]? = some (wd l t) := by simp [ws, h]
/-- W16: all are words. -/
def W16 (l : List Nat) : Prop := ∀ x ∈ l, x < 65536
theorem ws_w16 {l : List Nat} (h : B8 l) : W16 (ws l) := by
  intro x hx
  obtain ⟨t, _, rfl⟩ := List.mem_map.1 hx
  exact wd_lt h t

theorem words_odd (A : Option Addr) (n cp : Nat) (w : World) (h : n % 2 = 1) : Calls Try.prog 19 #[.slice A n cp] w fun e w' => e = .returned (.tuple #[.slice none 0 0, .int .i64 8]) ∧ w = w' := by
  have h1 : (((n : Nat) : Int) % 2 != 0) = true := by rw [bne_iff_ne]; omega
  have h2 : (((n : Nat) : Int).tmod 2 != 0) = true := by rw [bne_iff_ne, Int.tmod_eq_emod_of_nonneg (by omega)]; omega
  clear h
  go_enter Try.func19, Try.ntmps19
  go_wp2
  go_ret2
  exact ⟨rfl, rfl⟩

set_option maxRecDepth 100000 in
set_option maxHeartbeats 4000000 in
theorem Words_st {A : Option Addr} {n cp : Nat} {l : List Nat} {w : World} (hl : l.length = n) (h2 : n % 2 = 0) (hn : n ≤ 140737488351232) (hr : Rd w A l) (h8 : B8 l) :
    Calls Try.prog 19 #[.slice A n cp] w fun e w' => ∃ b, e = .returned (.tuple #[.slice (some ⟨b, 0, none⟩) (n / 2 : Nat) (n / 2 : Nat), .int .i64 0]) ∧ St w w' [] [⟨b, 23, row .u16 (ws l)⟩] := by
  have HL := Lib.hid hl; have HR := Lib.hid hr; have H8 := Lib.hid h8
  have g1 : (((n : Nat) : Int) % 2 != 0) = false := by rw [bne_eq_false_iff_eq]; omega
  have g2 : (((n : Nat) : Int).tmod 2 != 0) = false := by rw [bne_eq_false_iff_eq, Int.tmod_eq_emod_of_nonneg (by omega)]; omega
  obtain ⟨q, hq⟩ : ∃ q, n / 2 = q := ⟨_, rfl⟩
  have HQ := Lib.hid (show n = 2 * q by omega)
  have q1 : (n : Int) / 2 = (q : Int) := by omega
  have q2 : Int.tdiv (n : Int) 2 = (q : Int) := by rw [Int.tdiv_eq_ediv_of_nonneg (by omega)]; omega
  have q3 : q ≤ 140737488351232 := by omega
  rw [hq]
  clear hl hr h8 h2 hq
  have S0 := Lib.hid (St.start w)
  go_enter Try.func19, Try.ntmps19
  go_wp2_with ((with_reducible refine at_slot (N := 13) rfl ?_); refine make_law rfl 36 23 _ .u16 q 2 rfl rfl Try.underlying36 info_u16 (by omega) (by omega) S0.out ?_; intro b w1 h1; (try simp only [World.size_alloc, List.nil_append, List.cons_append, List.append_eq] at h1); have S1 := Lib.hid h1; clear h1 S0)
  have H1 : Hid (St w w1 [] [⟨b, 23, row .u16 (fill (wd l) q 0)⟩]) := Lib.hid (by have := S1.out; rw [fill_zero]; exact this)
  clear S1 g1 g2
  go_wp2_with fail
  go_loopw [16] (fun vi wr => ∃ i : Nat, i ≤ q ∧ vi = .int .i64 i ∧ St w wr [] [⟨b, 23, row .u16 (fill (wd l) q i)⟩]) (fun vi _ => q - (intOf vi).toNat)
  case atStart => exact ⟨0, by omega, rfl, H1.out⟩
  case round =>
    clear H1
    obtain ⟨i, hi, rfl, hs⟩ := hrel
    have S2 := Lib.hid hs; clear hs
    by_cases hlt : i < q
    · have hqn := HQ.out
      obtain ⟨bs, os, eA, hsrc⟩ := (S2.out.ext HR.out) (by rw [HL.out]; omega)
      subst eA
      have m1 := hsrc (2 * i) (by rw [HL.out]; omega)
      have m2 := hsrc (2 * i + 1) (by rw [HL.out]; omega)
      have x1 := H8.out.get (i := 2 * i) (by rw [HL.out]; omega)
      have x2 := H8.out.get (i := 2 * i + 1) (by rw [HL.out]; omega)
      have hvw : Hid (l.getD (2 * i) 0 + 256 * l.getD (2 * i + 1) 0 = wd l i) := Lib.hid rfl
      have hw := wd_lt H8.out i
      generalize l.getD (2 * i) 0 = y1 at *
      generalize l.getD (2 * i + 1) 0 = y2 at *
      clear hsrc
      have i1 : 2 * (i : Int) + 1 < (n : Int) := by omega
      have i2 : 2 * (i : Int) < (n : Int) := by omega
      clear hqn
      have i3 : IntKind.i64.wrap (2 * (i : Int) + 1) = 2 * (i : Int) + 1 := IntWalk.i64_in _ (by omega)
      have i8 : IntKind.i64.wrap (2 * (i : Int)) = 2 * (i : Int) := IntWalk.i64_in _ (by omega)
      have i4 : (0 : Int) ≤ 2 * (i : Int) := by omega
      have i5 : (0 : Int) ≤ 2 * (i : Int) + 1 := by omega
      have i6 : (2 * (i : Int)).toNat = 2 * i := by omega
      have i7 : (2 * (i : Int) + 1).toNat = 2 * i + 1 := by omega
      have iq : (i : Int) < (q : Int) := by omega
      have WC : Hid (∀ W : World, Calls Try.prog 36 #[.int .u8 (y1 : Int), .int .u8 (y2 : Int)] W fun e w' => e = .returned (.int .u16 ((wd l i : Nat) : Int)) ∧ W = w') := Lib.hid (fun W => by
        have := word_calls (y1 : Int) (y2 : Int) W (by omega) (by omega) (by omega) (by omega)
        rw [show (y1 : Int) + 256 * (y2 : Int) = ((wd l i : Nat) : Int) from by rw [← hvw.out]; simp] at this
        exact this)
      have m3 := (S2.out.blk mem0).cellRow (i := i) (by rw [fill_length]; exact hlt)
      have f3 := (S2.out.blk mem0).free (i := i)
      generalize (fill (wd l) q i).getD i 0 = z at *
      go_wp2_with fail
      refine Qt.quiet_tail 15 (by kernel_rfl) (by kernel_rfl) ?_
      simp only [List.take_succ_cons, List.take_zero, List.drop_succ_cons, List.drop_zero]
      repeat (quiet_step ((go_at_call 36; exact Qt.same (WC.out _))))
      refine wpQuiet_nil ?_
      rintro _ ⟨nq, rfl⟩
      go_wp2_with fail
      have S3 := Lib.hid ((S2.out.drewN (n := nq)).setRow (N1 := []) i (wd l i))
      rw [fill_step (f := wd l) hlt] at S3
      refine ⟨⟨i + 1, by omega, by simp, S3.out⟩, ?_⟩
      simp [intOf]; omega
    · obtain rfl : i = q := by omega
      rw [fill_done] at S2
      go_wp2_with fail
      go_ret2
      refine ⟨b, rfl, ?_⟩
      have e : ws l = (List.range i).map (wd l) := by
        unfold ws; rw [show l.length / 2 = i by rw [HL.out]; have := HQ.out; omega]
      rw [e]; exact S2.out

/-- The bytes of words. -/
def bs (l : List Nat) : List Nat := l.flatMap fun x => [x % 256, x / 256]
theorem bs_snoc (l : List Nat) (x : Nat) : bs (l ++ [x]) = bs l ++ [x % 256, x / 256] := by simp [bs]
theorem bs_length (l : List Nat) : (bs l).length = 2 * l.length := by
  induction l with
  | nil => rfl
  | cons x l ih => simp only [bs, List.flatMap_cons, List.length_append, List.length_cons, List.length_nil] at ih ⊢; omega
theorem bs_b8 {l : List Nat} (h : W16 l) : B8 (bs l) := by
  intro x hx
  obtain ⟨y, hy, hx⟩ := List.mem_flatMap.1 hx
  have := h y hy
  simp at hx
  rcases hx with rfl | rfl <;> omega
theorem take_snoc {l : List Nat} {i x : Nat} (h : l[i]? = some x) : l.take (i + 1) = l.take i ++ [x] := by
  rw [List.take_add_one, h]; rfl

set_option maxRecDepth 100000 in
set_option maxHeartbeats 4000000 in
theorem Bytes_st {A : Option Addr} {n cp : Nat} {l : List Nat} {w : World} (hl : l.length = n) (hn : n * 2 ≤ 140737488351232) (hr : RdV e16 w A l) (h16 : W16 l) :
    Calls Try.prog 25 #[.slice A n cp] w fun e w' => ∃ v G, e = .returned v ∧ GrowB v (bs l) G ∧ St w w' [] G := by
  have HL := Lib.hid hl; have HR := Lib.hid hr; have H16 := Lib.hid h16
  obtain ⟨C, hC⟩ : ∃ C, C = 2 * n := ⟨_, rfl⟩
  have HC := Lib.hid hC
  have e2 : 2 * (n : Int) = (C : Int) := by omega
  have hCb : C ≤ 140737488351232 := by omega
  clear hl hr h16 hC
  have S0 := Lib.hid (St.start w)
  go_enter Try.func25, Try.ntmps25
  go_wp2_with ((with_reducible refine at_slot (N := 9) rfl ?_); refine make_v (enc := e8) rfl _ _ _ .i64 .i64 0 C 1 0 rfl rfl rfl Try.underlying24 info_u8 rfl (Nat.zero_le _) (by omega) (by omega) S0.out ?_; intro b w1 h1; (try simp only [World.size_alloc, List.nil_append, List.cons_append, List.append_eq] at h1); have S1 := Lib.hid h1; clear h1 S0)
  clear e2
  have G0 : Hid (GrowB (.slice (some ⟨b, 0, none⟩) 0 C) [] [bt b (zs C)]) := Lib.hid (GrowB.mkBlk (Nat.zero_le _) (zs_length C) (by unfold maxLen; omega) (B8.zeros C) rfl rfl)
  have H1 : Hid (St w w1 [] [bt b (zs C)]) := Lib.hid S1.out
  clear S1
  go_loopw [3, 12] (fun v vi wr => ∃ (i : Nat) (G : List Ent), i ≤ n ∧ vi = .int .i64 i ∧ GrowB v (bs (l.take i)) G ∧ St w wr [] G) (fun _ vi _ => n - (intOf vi).toNat)
  case atStart => exact ⟨0, _, by omega, rfl, G0.out, H1.out⟩
  case round =>
    clear G0 H1
    obtain ⟨i, G, hi, rfl, hg, hs⟩ := hrel
    have S2 := Lib.hid hs; have HG := Lib.hid hg; clear hs hg
    by_cases hlt : i < n
    · obtain ⟨x, hx⟩ : ∃ x, l[i]? = some x := ⟨l[i]'(by rw [HL.out]; exact hlt), by simp⟩
      obtain ⟨b2, o2, eA, hsrc⟩ := (S2.out.extV HR.out) (by rw [HL.out]; omega)
      subst eA
      have m1 : wr.cell? ⟨b2, o2 + i, none⟩ = some (.int .u16 (x : Int)) := hsrc i x hx
      have hx16 := H16.out x (List.mem_of_getElem? hx)
      have HT := Lib.hid (take_snoc hx)
      have HB8 : Hid (B8 [x % 256, x / 256]) := Lib.hid (fun y hy => by simp at hy; rcases hy with rfl | rfl <;> omega)
      have HLT : Hid ((bs (l.take i)).length = 2 * i) := Lib.hid (by rw [bs_length, List.length_take, HL.out]; omega)
      clear hsrc hx
      obtain ⟨y1, hy1⟩ : ∃ y1, y1 = x % 256 := ⟨_, rfl⟩
      obtain ⟨y2, hy2⟩ : ∃ y2, y2 = x / 256 := ⟨_, rfl⟩
      have k0 : (x : Int) % 256 = (y1 : Int) := by omega
      have k1 : (x : Int) / 256 = (y2 : Int) := by omega
      have b1 : y2 < 256 := by omega
      have HE : Hid (bs (l.take (i + 1)) = bs (l.take i) ++ [y1, y2]) := Lib.hid (by rw [HT.out, bs_snoc, hy1, hy2])
      rw [← hy1, ← hy2] at HB8
      clear hy1 hy2 HT
      go_wp2_with ((with_reducible refine at_slot (N := 23) rfl ?_); refine append_bytes (N := []) (G := G) rfl _ _ rfl _ (bs (l.take i)) rfl (St.nilr (S2.out.skip (t := 5) (c := row .u8 [y1, y2]))) HG.out (some ⟨wr.heap.size, 0, none⟩) 2 2 [y1, y2] rfl rfl (Rd.of_blk (Blk.new wr _ _)) HB8.out (by rw [HLT.out]; show 2 * i + 2 ≤ _; omega) ?_; intro v' w3 G' h3 hg' hz; have HG' := Lib.hid hg'; clear hg' hz HG; rw [List.append_nil] at h3; (try simp only [World.size_alloc, List.nil_append, List.cons_append, List.append_eq] at h3); have S3 := Lib.hid h3; clear h3 S2)
      clear k0 k1
      refine ⟨⟨i + 1, G', by omega, by simp, ?_, S3.out⟩, ?_⟩
      · rw [HE.out]; exact HG'.out
      · simp [intOf]; omega
    · obtain rfl : i = n := by omega
      rw [List.take_of_length_le (by rw [HL.out]; exact Nat.le_refl _)] at HG
      go_wp2_with fail
      go_ret
      exact ⟨_, G, rfl, HG.out, S2.out⟩

/-- The bytes at even places, and those at odd ones. -/
def lo (l : List Nat) : List Nat := (List.range (l.length / 2)).map fun t => l.getD (2 * t) 0
def hi (l : List Nat) : List Nat := (List.range (l.length / 2)).map fun t => l.getD (2 * t + 1) 0
theorem lo_length (l : List Nat) : (lo l).length = l.length / 2 := by simp [lo]
theorem hi_length (l : List Nat) : (hi l).length = l.length / 2 := by simp [hi]
theorem lo_take {l : List Nat} {t : Nat} (h : t < l.length / 2) : (lo l).take (t + 1) = (lo l).take t ++ [l.getD (2 * t) 0] := take_snoc (by simp [lo, h])
theorem hi_take {l : List Nat} {t : Nat} (h : t < l.length / 2) : (hi l).take (t + 1) = (hi l).take t ++ [l.getD (2 * t + 1) 0] := take_snoc (by simp [hi, h])
theorem lo_b8 {l : List Nat} (h : B8 l) : B8 (lo l) := by
  intro x hx
  obtain ⟨t, _, rfl⟩ := List.mem_map.1 hx
  exact get256 h _
theorem hi_b8 {l : List Nat} (h : B8 l) : B8 (hi l) := by
  intro x hx
  obtain ⟨t, _, rfl⟩ := List.mem_map.1 hx
  exact get256 h _

theorem split_odd (A : Option Addr) (n cp : Nat) (w : World) (h : n % 2 = 1) : Calls Try.prog 23 #[.slice A n cp] w fun e w' => e = .returned (.tuple #[.slice none 0 0, .slice none 0 0, .int .i64 8]) ∧ w = w' := by
  have h1 : (((n : Nat) : Int) % 2 != 0) = true := by rw [bne_iff_ne]; omega
  have h2 : (((n : Nat) : Int).tmod 2 != 0) = true := by rw [bne_iff_ne, Int.tmod_eq_emod_of_nonneg (by omega)]; omega
  clear h
  go_enter Try.func23, Try.ntmps23
  go_wp2
  go_ret3
  exact ⟨rfl, rfl⟩

/-- What Split answers. -/
def SplitR (w : World) (l : List Nat) (e : Ending) (w' : World) : Prop :=
  ∃ v1 v2 G1 G2, e = .returned (.tuple #[v1, v2, .int .i64 0]) ∧ GrowB v1 (lo l) G1 ∧ GrowB v2 (hi l) G2 ∧ St w w' [] (G2 ++ G1)

set_option maxRecDepth 100000 in
set_option maxHeartbeats 4000000 in
theorem Split_st {A : Option Addr} {n cp : Nat} {l : List Nat} {w : World} (hl : l.length = n) (h2 : n % 2 = 0) (hn : n ≤ 140737488351232) (hr : Rd w A l) (h8 : B8 l) :
    Calls Try.prog 23 #[.slice A n cp] w (SplitR w l) := by
  have HL := Lib.hid hl; have HR := Lib.hid hr; have H8 := Lib.hid h8
  have g1 : (((n : Nat) : Int) % 2 != 0) = false := by rw [bne_eq_false_iff_eq]; omega
  have g2 : (((n : Nat) : Int).tmod 2 != 0) = false := by rw [bne_eq_false_iff_eq, Int.tmod_eq_emod_of_nonneg (by omega)]; omega
  obtain ⟨q, hq⟩ : ∃ q, n / 2 = q := ⟨_, rfl⟩
  have HQ := Lib.hid (show n = 2 * q by omega)
  clear hl hr h8 h2 hq
  have S0 := Lib.hid (St.start w)
  go_enter Try.func23, Try.ntmps23
  go_wp2_with fail
  clear g1 g2
  go_loopw [2, 3, 5] (fun v1 v2 vi wr => ∃ (t : Nat) (G1 G2 : List Ent), 2 * t ≤ n ∧ vi = .int .i64 (2 * (t : Int)) ∧ St w wr [] (G2 ++ G1) ∧ GrowB v1 ((lo l).take t) G1 ∧ GrowB v2 ((hi l).take t) G2) (fun _ _ vi _ => n + 2 - (intOf vi).toNat)
  case atStart => exact ⟨0, [], [], by omega, rfl, S0.out, GrowB.nil, GrowB.nil⟩
  case round =>
    clear S0
    obtain ⟨t, G1, G2, ht, rfl, hs, hg1, hg2⟩ := hrel
    have S1 := Lib.hid hs; have HG1 := Lib.hid hg1; have HG2 := Lib.hid hg2; clear hs hg1 hg2
    by_cases hlt : 2 * t < n
    · have hqn := HQ.out
      have HT1 := Lib.hid (lo_take (l := l) (t := t) (by rw [HL.out]; omega))
      have HT2 := Lib.hid (hi_take (l := l) (t := t) (by rw [HL.out]; omega))
      have HL1 : Hid (((lo l).take t).length = t) := Lib.hid (by rw [List.length_take, lo_length, HL.out]; omega)
      have HL2 : Hid (((hi l).take t).length = t) := Lib.hid (by rw [List.length_take, hi_length, HL.out]; omega)
      obtain ⟨b0, o0, eA, hc0⟩ := HR.out (by rw [HL.out]; omega)
      subst eA
      have x1 := H8.out.get (i := 2 * t) (by rw [HL.out]; omega)
      have x2 := H8.out.get (i := 2 * t + 1) (by rw [HL.out]; omega)
      have c1 := hc0 (2 * t) (by rw [HL.out]; omega)
      have c2 := hc0 (2 * t + 1) (by rw [HL.out]; omega)
      generalize l.getD (2 * t) 0 = y1 at *
      generalize l.getD (2 * t + 1) 0 = y2 at *
      have HC : Hid (∀ w' : World, St w w' [] [] → w'.cell? ⟨b0, o0 + 2 * t, none⟩ = some (.int .u8 (y1 : Int)) ∧ w'.cell? ⟨b0, o0 + (2 * t + 1), none⟩ = some (.int .u8 (y2 : Int))) := Lib.hid (fun w' hb => by
        refine ⟨?_, ?_⟩
        · rw [hb.below.cell (p := ⟨b0, o0 + 2 * t, none⟩) (cell_lt c1)]; exact c1
        · rw [hb.below.cell (p := ⟨b0, o0 + (2 * t + 1), none⟩) (cell_lt c2)]; exact c2)
      have i1 : 2 * (t : Int) + 1 < (n : Int) := by omega
      have i2 : 2 * (t : Int) < (n : Int) := by omega
      clear hqn hc0 c1 c2
      have i3 : IntKind.i64.wrap (2 * (t : Int) + 1) = 2 * (t : Int) + 1 := IntWalk.i64_in _ (by omega)
      have i4 : (0 : Int) ≤ 2 * (t : Int) := by omega
      have i5 : (0 : Int) ≤ 2 * (t : Int) + 1 := by omega
      have i6 : (2 * (t : Int)).toNat = 2 * t := by omega
      have i7 : (2 * (t : Int) + 1).toNat = 2 * t + 1 := by omega
      obtain ⟨m1, m2⟩ := HC.out wr S1.out.nil
      have B1 : Hid (B8 [y1]) := Lib.hid (fun y hy => by rw [List.mem_singleton] at hy; omega)
      have B2 : Hid (B8 [y2]) := Lib.hid (fun y hy => by rw [List.mem_singleton] at hy; omega)
      clear x1 x2
      go_wp2_with (first
        | ((with_reducible refine at_slot (N := 22) rfl ?_); refine append_bytes (N := G2) (G := G1) rfl _ _ rfl _ _ rfl ((S1.out.skip (t := 5) (c := row .u8 [y1])).perm List.perm_append_comm) HG1.out (some ⟨wr.heap.size, 0, none⟩) 1 1 [y1] rfl rfl (Rd.of_blk (Blk.new wr _ _)) B1.out (by rw [HL1.out]; show t + 1 ≤ _; omega) ?_; intro v1' w2 G1' h2 hg' hz; have HG1' := Lib.hid hg'; clear hg' hz HG1 m1 m2; obtain ⟨_, m2⟩ := HC.out _ (St.nil h2); (try simp only [World.size_alloc, List.nil_append, List.cons_append, List.append_eq] at h2); have S2 := Lib.hid h2; clear h2 S1)
        | ((with_reducible refine at_slot (N := 30) rfl ?_); refine append_bytes (N := G1') (G := G2) rfl _ _ rfl _ _ rfl ((S2.out.skip (t := 5) (c := row .u8 [y2])).perm List.perm_append_comm) HG2.out (some ⟨w2.heap.size, 0, none⟩) 1 1 [y2] rfl rfl (Rd.of_blk (Blk.new w2 _ _)) B2.out (by rw [HL2.out]; show t + 1 ≤ _; omega) ?_; intro v2' w3 G2' h3 hg' hz; have HG2' := Lib.hid hg'; clear hg' hz HG2 m2; (try simp only [World.size_alloc, List.nil_append, List.cons_append, List.append_eq] at h3); have S3 := Lib.hid h3; clear h3 S2))
      refine ⟨⟨t + 1, G1', G2', by omega, by simp; omega, S3.out, ?_, ?_⟩, ?_⟩
      · rw [HT1.out]; exact HG1'.out
      · rw [HT2.out]; exact HG2'.out
      · simp [intOf]; omega
    · have hqn := HQ.out
      obtain rfl : t = q := by omega
      rw [List.take_of_length_le (by rw [lo_length, HL.out]; omega)] at HG1
      rw [List.take_of_length_le (by rw [hi_length, HL.out]; omega)] at HG2
      clear hqn
      go_wp2_with fail
      go_ret3
      exact ⟨_, _, G1, G2, rfl, HG1.out, HG2.out, S1.out⟩

/-- The bytes of two lists in turn, the first k of each. -/
def mg (a b : List Nat) (k : Nat) : List Nat := (List.range k).flatMap fun i => [a.getD i 0, b.getD i 0]
theorem mg_succ (a b : List Nat) (k : Nat) : mg a b (k + 1) = mg a b k ++ [a.getD k 0, b.getD k 0] := by simp [mg, List.range_succ]
theorem mg_length (a b : List Nat) (k : Nat) : (mg a b k).length = 2 * k := by
  induction k with
  | zero => rfl
  | succ k ih => rw [mg_succ, List.length_append, ih]; simp; omega

theorem merge_ne (A1 A2 : Option Addr) (n m c1 c2 : Nat) (w : World) (h : n ≠ m) : Calls Try.prog 24 #[.slice A1 n c1, .slice A2 m c2] w fun e w' => e = .returned (.tuple #[.slice none 0 0, .int .i64 6]) ∧ w = w' := by
  have h1 : (n == m) = false := by simpa using h
  have h2 : (((n : Nat) : Int) != ((m : Nat) : Int)) = true := by rw [bne_iff_ne]; omega
  have h3 : (n != m) = true := by rw [bne_iff_ne]; exact h
  clear h
  go_enter Try.func24, Try.ntmps24
  go_wp2
  go_ret2
  exact ⟨rfl, rfl⟩

set_option maxRecDepth 100000 in
set_option maxHeartbeats 4000000 in
theorem Merge_st {A1 A2 : Option Addr} {n c1 c2 : Nat} {l h : List Nat} {w : World} (hl : l.length = n) (hh : h.length = n) (hn : n ≤ 70368744175616) (hr1 : Rd w A1 l) (hr2 : Rd w A2 h) (h81 : B8 l) (h82 : B8 h) :
    Calls Try.prog 24 #[.slice A1 n c1, .slice A2 n c2] w fun e w' => ∃ v G, e = .returned (.tuple #[v, .int .i64 0]) ∧ GrowB v (mg l h n) G ∧ St w w' [] G := by
  have HL := Lib.hid hl; have HH := Lib.hid hh; have HR1 := Lib.hid hr1; have HR2 := Lib.hid hr2; have H81 := Lib.hid h81; have H82 := Lib.hid h82
  obtain ⟨C, hC⟩ : ∃ C, C = 2 * n := ⟨_, rfl⟩
  have HC := Lib.hid hC
  have e2 : 2 * (n : Int) = (C : Int) := by omega
  have hCb : C ≤ 140737488351232 := by omega
  clear hl hh hr1 hr2 h81 h82 hC
  have S0 := Lib.hid (St.start w)
  go_enter Try.func24, Try.ntmps24
  go_wp2_with ((with_reducible refine at_slot (N := 16) rfl ?_); refine make_v (enc := e8) rfl _ _ _ .i64 .i64 0 C 1 0 rfl rfl rfl Try.underlying24 info_u8 rfl (Nat.zero_le _) (by omega) (by omega) S0.out ?_; intro b w1 h1; (try simp only [World.size_alloc, List.nil_append, List.cons_append, List.append_eq] at h1); have S1 := Lib.hid h1; clear h1 S0)
  clear e2
  have G0 : Hid (GrowB (.slice (some ⟨b, 0, none⟩) 0 C) [] [bt b (zs C)]) := Lib.hid (GrowB.mkBlk (Nat.zero_le _) (zs_length C) (by unfold maxLen; omega) (B8.zeros C) rfl rfl)
  have H1 : Hid (St w w1 [] [bt b (zs C)]) := Lib.hid S1.out
  clear S1
  go_loopw [6, 19] (fun v vi wr => ∃ (i : Nat) (G : List Ent), i ≤ n ∧ vi = .int .i64 i ∧ GrowB v (mg l h i) G ∧ St w wr [] G) (fun _ vi _ => n - (intOf vi).toNat)
  case atStart => exact ⟨0, _, by omega, rfl, G0.out, H1.out⟩
  case round =>
    clear G0 H1
    obtain ⟨i, G, hi, rfl, hg, hs⟩ := hrel
    have S2 := Lib.hid hs; have HG := Lib.hid hg; clear hs hg
    by_cases hlt : i < n
    · obtain ⟨b1, o1, e1, k1⟩ := (S2.out.ext HR1.out) (by rw [HL.out]; omega)
      obtain ⟨b2, o2, e2, k2⟩ := (S2.out.ext HR2.out) (by rw [HH.out]; omega)
      subst e1 e2
      have m1 := k1 i (by rw [HL.out]; exact hlt)
      have m2 := k2 i (by rw [HH.out]; exact hlt)
      have x1 := H81.out.get (i := i) (by rw [HL.out]; omega)
      have x2 := H82.out.get (i := i) (by rw [HH.out]; omega)
      have HT := Lib.hid (mg_succ l h i)
      have HM := Lib.hid (mg_length l h i)
      generalize hY1 : l.getD i 0 = y1 at *
      generalize hY2 : h.getD i 0 = y2 at *
      have HB8 : Hid (B8 [y1, y2]) := Lib.hid (fun y hy => by simp at hy; rcases hy with rfl | rfl <;> omega)
      have iq : (i : Int) < (n : Int) := by omega
      clear k1 k2
      have S3 := Lib.hid S2.out.drew; clear S2
      have HCC : Hid (∀ w' : World, St w w' [] [] → w'.cell? ⟨b1, o1 + i, none⟩ = some (.int .u8 (y1 : Int)) ∧ w'.cell? ⟨b2, o2 + i, none⟩ = some (.int .u8 (y2 : Int))) := Lib.hid (fun w' hb => by
        rw [← hY1, ← hY2]
        obtain ⟨_, _, e, c1⟩ := (hb.ext HR1.out) (by rw [HL.out]; omega)
        injection e with e; injection e with e1 e2 _; subst e1 e2
        obtain ⟨_, _, e, c2⟩ := (hb.ext HR2.out) (by rw [HH.out]; omega)
        injection e with e; injection e with e1 e2 _; subst e1 e2
        exact ⟨c1 i (by rw [HL.out]; exact hlt), c2 i (by rw [HH.out]; exact hlt)⟩)
      clear hY1 hY2
      have L1 := cell_lt m1
      have L2 := cell_lt m2
      simp only at L1 L2
      go_wp2_with fail
      go_region_held3 (fun w' => w'.cell? ⟨b1, o1 + i, none⟩ = some (.int .u8 (y1 : Int)) ∧ w'.cell? ⟨b2, o2 + i, none⟩ = some (.int .u8 (y2 : Int))) (first | go_keep | exact HCC.out _ S4.out.nil) (first
        | (refine step_append (N := []) (G := G) (by rfl) _ _ (by rfl) _ (mg l h i) (by rfl) (by first | exact St.nilr (S3.out.skip) | exact St.nilr S3.out) HG.out (some ⟨wr.heap.size, 0, none⟩) 2 2 [y1, y2] (by rfl) (by rfl) (by first | exact Rd.of_blk (Blk.new wr.drew _ _) | exact Rd.of_blk (Blk.new wr _ _).drew) HB8.out (by rw [HM.out]; show 2 * i + 2 ≤ _; omega) ?_; intro v' w4 G' hs hg' hz; have HG' := Lib.hid hg'; rw [List.append_nil] at hs; have S4 := Lib.hid hs; clear hg' hz HG hs))
      go_wp2_with fail
      refine ⟨⟨i + 1, G', by omega, by simp, ?_, S4.out⟩, ?_⟩
      · rw [HT.out]; exact HG'.out
      · simp [intOf]; omega
    · obtain rfl : i = n := by omega
      go_wp2_with fail
      go_ret2
      exact ⟨_, G, rfl, HG.out, S2.out⟩

/-- One of the four quarters of c. -/
def qr (c n : Nat) : List Nat := (List.range 16).map fun k => gm c (k * 16 ^ n)
theorem qr_length (c n : Nat) : (qr c n).length = 16 := by simp [qr]
theorem qL_piece {c n : Nat} (hn : n < 4) : ((qL c).drop (n * 16)).take 16 = qr c n := by
  apply List.ext_getElem?
  intro k
  by_cases hk : k < 16
  · rw [List.getElem?_take, if_pos hk, List.getElem?_drop]
    have h1 : n * 16 + k < 64 := by omega
    have h2 := qf_at (c := c) (n := n) hk
    rw [Nat.mul_comm 16 n] at h2
    simp [qL, qr, hk, h1, h2]
  · rw [List.getElem?_eq_none (by rw [List.length_take, List.length_drop, qL_length]; omega), List.getElem?_eq_none (by rw [qr_length]; omega)]

end Go.Proofs.Ytadgjmlkpnifoaa.Pq
