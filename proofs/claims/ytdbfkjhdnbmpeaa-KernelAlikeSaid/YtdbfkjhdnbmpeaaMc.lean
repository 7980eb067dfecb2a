/- Layer 9: the law KernelAlike, from what is handed in. -/
import Derived.Test.YtdbfkjhdnbmpeaaKn
import Derived.ChangeKeysEq

namespace Go.Proofs.Ytdbfkjhdnbmpeaa.Sk
set_option linter.unusedSimpArgs false
set_option linter.unusedVariables false
open Go Go.RowKit Go.Proofs.Ytdbfkjhdnbmpeaa Go.Proofs.Ytdbfkjhdnbmpeaa.Mm Go.Proofs.Ytdbfkjhdnbmpeaa.Gf Go.Proofs.Ytdbfkjhdnbmpeaa.Wr Go.Proofs.Ytdbfkjhdnbmpeaa.Nb Go.Proofs.Ytdbfkjhdnbmpeaa.St

theorem Sets3.more {b : Nat} {K K' : List Ent} (h : Sets3 b K) (hk : ∀ e ∈ K, e ∈ K') : Sets3 b K' := fun i hi => by
  obtain ⟨p, S, h1, h2, h3⟩ := h i hi
  exact ⟨p, S, h1, fun e he => hk e (h2 e he), fun w0 w N hs hK => h3 w0 w N hs (fun e he => hK e (hk e he))⟩

/-- The lists are not longer than memory, each by itself. -/
def Wide (L : List (List Nat)) : Prop := L.length ≤ 140737488351232 ∧ ∀ l ∈ L, l.length ≤ 140737488351232
theorem Wide.get {L : List (List Nat)} (h : Wide L) (i : Nat) : (L.getD i []).length ≤ 140737488351232 := by
  by_cases hi : i < L.length
  · have e : L.getD i [] = L[i] := by simp [hi]
    rw [e]; exact h.2 _ (List.getElem_mem _)
  · simp [hi]
theorem Wide.snoc {L : List (List Nat)} {l : List Nat} (h : Fit L) (hl : l.length ≤ 140737488351232) : Wide (L ++ [l]) :=
  ⟨by have := h.1; rw [List.length_append]; simp; omega, fun x hx => by
    rcases List.mem_append.1 hx with hx | hx
    · exact h.2 x hx
    · rw [List.mem_singleton.1 hx]; exact hl⟩
theorem B8L.snoc {L : List (List Nat)} {l : List Nat} (h : B8L L) (hl : B8 l) : B8L (L ++ [l]) := fun x hx => by
  rcases List.mem_append.1 hx with hx | hx
  · exact h x hx
  · rw [List.mem_singleton.1 hx]; exact hl

set_option maxRecDepth 100000 in
set_option maxHeartbeats 2000000 in
theorem all_wide {A1 A2 : Option Addr} {m1 m2 c1 c2 : Nat} {L1 L2 : List (List Nat)} {w : World} (hm1 : L1.length = m1) (hm2 : L2.length = m2) (hf1 : Wide L1) (hf2 : Wide L2) (h81 : B8L L1) (h82 : B8L L2) (h1 : RdL w [] A1 L1) (h2 : RdL w [] A2 L2) :
    Calls Try.prog 20 #[.slice A1 m1 c1, .slice A2 m2 c2] w fun e w' => e = .returned (.bool (decide (L1 = L2))) ∧ ∃ n, w' = w.drewN n := by
  have H1 := Lib.hid h1; have H2 := Lib.hid h2; have M1 := Lib.hid hm1; have M2 := Lib.hid hm2; have H81 := Lib.hid h81; have H82 := Lib.hid h82; have F1 := Lib.hid hf1; have F2 := Lib.hid hf2
  have hb : m1 ≤ 140737488351232 := by have := hf1.1; omega
  obtain ⟨B, HB⟩ : ∃ B, Hid (decide (L1 = L2) = B) := ⟨_, Lib.hid rfl⟩
  rw [HB.out]
  clear h1 h2 hm1 hm2 h81 h82 hf1 hf2
  by_cases hne : m1 ≠ m2
  · have q1 : (m1 == m2) = false := by simpa using hne
    have q2 : (((m1 : Nat) : Int) != ((m2 : Nat) : Int)) = true := by rw [bne_iff_ne]; omega
    have q3 : (m1 != m2) = true := by rw [bne_iff_ne]; exact hne
    have HQ : Hid (B = false) := Lib.hid (by rw [← HB.out, decide_eq_false_iff_not]; intro e; rw [e] at M1; exact hne (M1.out.symm.trans M2.out))
    clear hne
    go_enter Try.func20, Try.ntmps20
    go_wp2
    go_ret
    have hq := HQ.out
    subst hq
    exact ⟨rfl, 0, rfl⟩
  · obtain rfl : m1 = m2 := by omega
    obtain ⟨m, rfl⟩ : ∃ m, m = m1 := ⟨_, rfl⟩
    clear hne
    go_enter Try.func20, Try.ntmps20
    go_wp2
    go_loopw [13] (fun vi wr => ∃ i : Nat, i ≤ m ∧ vi = .int .i64 i ∧ (∃ n, wr = w.drewN n) ∧ L1.take i = L2.take i) (fun vi _ => m - (intOf vi).toNat)
    case atStart => exact ⟨0, by omega, rfl, ⟨0, rfl⟩, rfl⟩
    case round =>
      obtain ⟨i, hi, rfl, hw, ht⟩ := hrel
      have HT := Lib.hid ht; clear ht
      have HW := Lib.hid hw; clear hw
      by_cases hlt : i < m
      · have R1 : RdL wr [] A1 L1 := by obtain ⟨n, e⟩ := HW.out; rw [e]; exact H1.out
        have R2 : RdL wr [] A2 L2 := by obtain ⟨n, e⟩ := HW.out; rw [e]; exact H2.out
        obtain ⟨b1, o1, B1, d1, e1, x1, g1, r1, _⟩ := R1.at (i := i) (by rw [M1.out]; omega)
        obtain ⟨b2, o2, B2, d2, e2, x2, g2, r2, _⟩ := R2.at (i := i) (by rw [M2.out]; omega)
        have HG1 : Hid (L1[i]? = some (L1.getD i [])) := Lib.hid (by have := M1.out; simp [show i < L1.length by omega])
        have HG2 : Hid (L2[i]? = some (L2.getD i [])) := Lib.hid (by have := M2.out; simp [show i < L2.length by omega])
        have HE := Lib.hid (fun k : Nat => equal_any (c1 := d1) (c2 := d2) (w := wr.drewN k) rfl rfl (by have := F1.out.get i; omega) (H81.out.get i) (H82.out.get i) r1 r2)
        subst e1 e2
        clear r1 r2 R1 R2 g1 g2
        generalize L1.getD i [] = a at *
        generalize L2.getD i [] = b at *
        obtain ⟨n1, hn1⟩ : ∃ n1, Hid (a.length = n1) := ⟨_, Lib.hid rfl⟩
        obtain ⟨n2, hn2⟩ : ∃ n2, Hid (b.length = n2) := ⟨_, Lib.hid rfl⟩
        obtain ⟨q, hq⟩ : ∃ q, Hid (decide (a = b) = q) := ⟨_, Lib.hid rfl⟩
        rw [hn1.out, hn2.out, hq.out] at HE
        rw [hn1.out] at x1
        rw [hn2.out] at x2
        have i1 : (i : Int) < (m : Int) := by omega
        clear H1 H2
        rcases Bool.two q with rfl | rfl
        · have hab := of_decide_eq_true hq.out
          have HT2 : Hid (L1.take (i + 1) = L2.take (i + 1)) := Lib.hid (by rw [List.take_add_one, List.take_add_one, HT.out, HG1.out, HG2.out, hab])
          clear hab
          go_wp2
          go_quiet (((with_reducible exact Calls.quiet_of (HE.out _))))
          go_wp2
          go_roundw
          case rel => exact ⟨i + 1, by omega, by go_num, by obtain ⟨n, e⟩ := HW.out; exact ⟨n + nq, by rw [e, World.drewN_drewN]⟩, HT2.out⟩
          case measure => simp [intOf]; omega
        · have hab := of_decide_eq_false hq.out
          have HQ : Hid (B = false) := Lib.hid (by
            rw [← HB.out, decide_eq_false_iff_not]
            intro e
            have := HG1.out
            rw [e, HG2.out] at this
            injection this with this
            exact hab this.symm)
          clear hab
          go_wp2
          go_quiet (((with_reducible exact Calls.quiet_of (HE.out _))))
          go_wp2
          go_ret
          have hq2 := HQ.out
          subst hq2
          exact ⟨rfl, by obtain ⟨n, e⟩ := HW.out; exact ⟨n + nq, by rw [e, World.drewN_drewN]⟩⟩
      · obtain rfl : i = m := by omega
        have HQ : Hid (B = true) := Lib.hid (by
          rw [← HB.out, decide_eq_true_eq]
          have := HT.out
          rw [List.take_of_length_le (by rw [M1.out]; exact Nat.le_refl _), List.take_of_length_le (by rw [M2.out]; exact Nat.le_refl _)] at this
          exact this)
        clear H1 H2
        go_wp2
        go_ret
        have hq := HQ.out
        subst hq
        exact ⟨rfl, HW.out⟩
theorem all_wsame {A1 A2 : Option Addr} {m c1 c2 : Nat} {L : List (List Nat)} {w : World} (hm : L.length = m) (hf : Wide L) (h8 : B8L L) (h1 : RdL w [] A1 L) (h2 : RdL w [] A2 L) :
    Calls Try.prog 20 #[.slice A1 m c1, .slice A2 m c2] w fun e w' => e = .returned (.bool true) ∧ ∃ n, w' = w.drewN n :=
  (all_wide hm hm hf hf h8 h8 h1 h2).mono fun e w' ⟨he, hw⟩ => ⟨by rw [he, decide_eq_true rfl], hw⟩

/-- A whole array stored. -/
theorem al_all {P Q : List Ent} {b : Nat} {t : TypeId} {a0 a1 a2 a3 a4 : Value} (v0 v1 v2 v3 v4 : Value) {w0 w : World} (h : St w0 w [] (P ++ ⟨b, t, #[a0, a1, a2, a3, a4]⟩ :: Q)) :
    St w0 (((((w.setCell ⟨b, 0, none⟩ v0).setCell ⟨b, 1, none⟩ v1).setCell ⟨b, 2, none⟩ v2).setCell ⟨b, 3, none⟩ v3).setCell ⟨b, 4, none⟩ v4) [] (P ++ ⟨b, t, #[v0, v1, v2, v3, v4]⟩ :: Q) :=
  St.setN (N1 := P) v4 4 (St.setN (N1 := P) v3 3 (St.setN (N1 := P) v2 2 (St.setN (N1 := P) v1 1 (St.setN (N1 := P) v0 0 h))))
/-- A list put behind a fresh copy. -/
theorem CopyL.snoc {A A' : Option Addr} {n c c' a k : Nat} {bs : List Nat} {L : List (List Nat)} {l : List Nat} {G G' : List Ent} (h : CopyL A n c bs L G) (hk : l.length = k) (hg : GrowV es 39 (.slice A' (n + 1) c') (sds bs L ++ [⟨some ⟨a, 0, none⟩, k, k⟩]) G') : CopyL A' (n + 1) c' (bs ++ [a]) (L ++ [l]) G' :=
  ⟨by rw [List.length_append, List.length_append, h.1]; rfl, by rw [List.length_append, h.2.1]; rfl, by rw [sds_snoc h.1, hk]; exact hg, fun h => by omega⟩

theorem errno_plain : Try.prog.plainKey 35 = true := by kernel_rfl
theorem errno_info : (Try.prog.info? 35).isSome = true := by kernel_rfl
theorem errno_cells : Try.prog.cellsOf 35 = 1 := by kernel_rfl
theorem errno_under : Try.prog.underlying 35 = some (.int .i64) := by kernel_rfl
theorem errs_under : Try.prog.underlying 43 = some (.array 5 35) := by kernel_rfl
/-- Two arrays of errors that are alike. -/
theorem errs_eq (w : World) (a b c d e : Int) : (Op.equalIn 10000 43 (.agg #[.int .i64 a, .int .i64 b, .int .i64 c, .int .i64 d, .int .i64 e]) (.agg #[.int .i64 a, .int .i64 b, .int .i64 c, .int .i64 d, .int .i64 e])).run Try.prog w = .ok true w := by
  obtain ⟨i, hi⟩ := Option.isSome_iff_exists.1 errno_info
  have h1 : ∀ x : Int, (Op.equalIn 9999 35 (.int .i64 x) (.int .i64 x)).run Try.prog w = .ok true w := fun x => by
    rw [run_equalIn_int w 9998 35 .i64 .i64 x x errno_under]; simp
  have p0 := run_part_plain (P := Try.prog) w errno_plain (xs := #[.int .i64 a, .int .i64 b, .int .i64 c, .int .i64 d, .int .i64 e]) (off := 0) (v := .int .i64 a) rfl
  have p1 := run_part_plain (P := Try.prog) w errno_plain (xs := #[.int .i64 a, .int .i64 b, .int .i64 c, .int .i64 d, .int .i64 e]) (off := 1) (v := .int .i64 b) rfl
  have p2 := run_part_plain (P := Try.prog) w errno_plain (xs := #[.int .i64 a, .int .i64 b, .int .i64 c, .int .i64 d, .int .i64 e]) (off := 2) (v := .int .i64 c) rfl
  have p3 := run_part_plain (P := Try.prog) w errno_plain (xs := #[.int .i64 a, .int .i64 b, .int .i64 c, .int .i64 d, .int .i64 e]) (off := 3) (v := .int .i64 d) rfl
  have p4 := run_part_plain (P := Try.prog) w errno_plain (xs := #[.int .i64 a, .int .i64 b, .int .i64 c, .int .i64 d, .int .i64 e]) (off := 4) (v := .int .i64 e) rfl
  rw [show (10000 : Nat) = 9999 + 1 from rfl, run_equalIn_array w 9999 _ _ errs_under hi, errno_cells, show List.range 5 = [0, 1, 2, 3, 4] from rfl]
  simp [Op.eqItems, Sem.run_bind, p0, p1, p2, p3, p4, h1, Result.andThen_ok]

/-- The blocks of one round: the errors' array, the copies of dsts (two), the copy of dst, and what lies below. -/
abbrev aX (nb : Nat) (cs : Array Value) (GO : List Ent) (bsO : List Nat) (O : List (List Nat)) (GD : List Ent) (bsD : List Nat) (Y : List (List Nat)) (a : Nat) (D : List Nat) (K : List Ent) : List Ent :=
  ⟨nb, 43, cs⟩ :: (GO ++ (ents bsO O ++ (GD ++ (ents bsD Y ++ (bt a D :: K)))))

theorem aX_sub (nb : Nat) (cs : Array Value) (GO : List Ent) (bsO : List Nat) (O : List (List Nat)) (GD : List Ent) (bsD : List Nat) (Y : List (List Nat)) (a : Nat) (D : List Nat) (K : List Ent) : K.Sublist (aX nb cs GO bsO O GD bsD Y a D K) :=
  (((((List.sublist_cons_self (bt a D) K).trans (List.sublist_append_right (ents bsD Y) _)).trans (List.sublist_append_right GD _)).trans (List.sublist_append_right (ents bsO O) _)).trans (List.sublist_append_right GO _)).trans (List.sublist_cons_self _ _)

section
variable {p j nb a r n m : Nat} {cs : Array Value} {GO GD K S : List Ent} {bsO bsD : List Nat} {O Y : List (List Nat)} {D l : List Nat} {w0 w wA : World}
theorem al_add {c : Nat} (SE : SetE p j S) (h : St w0 w [] (aX nb cs GO bsO O GD bsD Y a D K)) (hS : ∀ e ∈ S, e ∈ K) (k1 : St w wA [] [bt r l]) (hc : c < 256) (hD : D.length = n) (h8D : B8 D) (hl : l.length = m) (h8 : B8 l) (hn : n ≤ 140737488351232) :
    Calls Try.prog 17 #[.pointer (some ⟨p, 0, none⟩), .int .u8 (c : Int), .slice (some ⟨a, 0, none⟩) n n, .slice (some ⟨r, 0, none⟩) m m] wA fun e w' => e = .returned (.int .i64 (lenE n m)) ∧ St w0 w' [] (aX nb cs GO bsO O GD bsD Y a (addD c D l) K) := by
  have e : ∀ D, aX nb cs GO bsO O GD bsD Y a D K = (⟨nb, 43, cs⟩ :: (GO ++ (ents bsO O ++ (GD ++ ents bsD Y)))) ++ bt a D :: K := fun D => by simp [aX]
  rw [e] at h
  have := addC (c := (c : Int)) SE h (fun x hx => by simp [hS x hx]) k1 (by omega) (by omega) hD h8D hl h8 hn
  simp only [Int.toNat_natCast] at this
  simpa only [e] using this
variable {wB : World} {A' A2 A3 : Option Addr} {n1 n2 n3 k c' c2 c3 r1 r2 : Nat} {bs1 bs2 : List Nat} {G1 G2 : List Ent} {row diff : List Nat} {rows srcs : List (List Nat)} {f t : Int}
theorem al_dot (SE : SetE p j S) (h : St w0 w [] (aX nb cs GO bsO O GD bsD Y a D K)) (hS : ∀ e ∈ S, e ∈ K) (k1 : St w wA [] [bt r1 row]) (k2 : St wA wB [] (G2 ++ ents bs2 srcs)) (hc : CopyL A' m c' bs2 srcs G2) (hD : D.length = n) (h8D : B8 D) (hk : row.length = k) (hr8 : B8 row) (hf : Fit srcs) (hs8 : B8L srcs) (hn : n ≤ 140737488351232) :
    Calls Try.prog 18 #[.pointer (some ⟨p, 0, none⟩), .slice (some ⟨r1, 0, none⟩) k k, .slice A' m c', .slice (some ⟨a, 0, none⟩) n n] wB fun e w' => e = .returned (.int .i64 (dotE row srcs n)) ∧ St w0 w' [] (aX nb cs GO bsO O GD bsD Y a (dotD row srcs D) K) := by
  have e : ∀ D, aX nb cs GO bsO O GD bsD Y a D K = (⟨nb, 43, cs⟩ :: (GO ++ (ents bsO O ++ (GD ++ ents bsD Y)))) ++ bt a D :: K := fun D => by simp [aX]
  rw [e] at h
  have := dotC SE h (fun x hx => by simp [hS x hx]) k1 k2 hc hD h8D hk hr8 hf hs8 hn
  simpa only [e] using this
theorem al_app (SE : SetE p j S) (h : St w0 w [] (aX nb cs GO bsO O GD bsD Y a D K)) (hS : ∀ e ∈ S, e ∈ K) (hd : CopyL A3 n3 c3 bsD Y GD) (k1 : St w wA [] (G1 ++ ents bs1 rows)) (hc1 : CopyL A' n1 c' bs1 rows G1) (k2 : St wA wB [] (G2 ++ ents bs2 srcs)) (hc2 : CopyL A2 n2 c2 bs2 srcs G2)
    (hf1 : Fit rows) (hf2 : Fit srcs) (hf3 : Fit Y) (h81 : B8L rows) (h82 : B8L srcs) (h83 : B8L Y) :
    Calls Try.prog 14 #[.pointer (some ⟨p, 0, none⟩), .slice A' n1 c', .slice A2 n2 c2, .slice A3 n3 c3, .agg #[.int .i64 f, .int .i64 t]] wB fun e w' => e = .returned (.int .i64 (fitsE rows srcs Y f t)) ∧ St w0 w' [] (aX nb cs GO bsO O GD bsD (appE rows srcs Y f t) a D K) := by
  have e : ∀ Y, aX nb cs GO bsO O GD bsD Y a D K = (⟨nb, 43, cs⟩ :: (GO ++ (ents bsO O ++ GD))) ++ (ents bsD Y ++ (bt a D :: K)) := fun Y => by simp [aX]
  rw [e] at h
  have := applyC (f := f) (t := t) SE h (fun x hx => by simp [hS x hx]) (fun x hx => .inl (by simp [hx])) hd k1 hc1 k2 hc2 hf1 hf2 hf3 h81 h82 h83
  simpa only [e] using this
theorem al_spr (SE : SetE p j S) (h : St w0 w [] (aX nb cs GO bsO O GD bsD Y a D K)) (hS : ∀ e ∈ S, e ∈ K) (hd : CopyL A3 n3 c3 bsO O GO) (k1 : St w wA [] [bt r1 row]) (k2 : St wA wB [] [bt r2 diff])
    (h1 : row.length = n1) (h2 : diff.length = n2) (hf3 : Fit O) (hn2 : n2 ≤ 140737488351232) (h81 : B8 row) (h82 : B8 diff) (h83 : B8L O) :
    Calls Try.prog 19 #[.pointer (some ⟨p, 0, none⟩), .slice (some ⟨r1, 0, none⟩) n1 n1, .slice (some ⟨r2, 0, none⟩) n2 n2, .slice A3 n3 c3, .agg #[.int .i64 f, .int .i64 t]] wB fun e w' => e = .returned (.int .i64 (sprE row diff O f t)) ∧ St w0 w' [] (aX nb cs GO bsO (sprD row diff O f t) GD bsD Y a D K) := by
  have e : ∀ O, aX nb cs GO bsO O GD bsD Y a D K = (⟨nb, 43, cs⟩ :: GO) ++ (ents bsO O ++ (GD ++ (ents bsD Y ++ (bt a D :: K)))) := fun O => by simp [aX]
  rw [e] at h
  have := spreadC (f := f) (t := t) SE h (fun x hx => by simp [hS x hx]) (fun x hx => .inl (by simp [hx])) hd k1 k2 h1 h2 hf3 hn2 h81 h82 h83
  simpa only [e] using this
variable {wC : World} {bs3 : List Nat} {G3 : List Ent} {L : List (List Nat)} {A4 : Option Addr} {n4 c4 : Nat}
theorem al_agr (SE : SetE p j S) (h : St w0 w [] (aX nb cs GO bsO O GD bsD Y a D K)) (hS : ∀ e ∈ S, e ∈ K) (k1 : St w wA [] (G1 ++ ents bs1 rows)) (hc1 : CopyL A' n1 c' bs1 rows G1) (k2 : St wA wB [] (G2 ++ ents bs2 srcs)) (hc2 : CopyL A2 n2 c2 bs2 srcs G2) (k3 : St wB wC [] (G3 ++ ents bs3 L)) (hc3 : CopyL A3 n3 c3 bs3 L G3)
    (hf1 : Fit rows) (hf2 : Fit srcs) (hf3 : Fit L) (h81 : B8L rows) (h82 : B8L srcs) (h83 : B8L L) :
    Calls Try.prog 15 #[.pointer (some ⟨p, 0, none⟩), .slice A' n1 c', .slice A2 n2 c2, .slice A3 n3 c3, .agg #[.int .i64 f, .int .i64 t]] wC fun e w' => e = .returned (.tuple #[.bool (agrE rows srcs L f t), .int .i64 (fitsE rows srcs L f t)]) ∧ St w0 w' [] (aX nb cs GO bsO O GD bsD Y a D K) := by
  have h3 : St w0 wC [] (((G3 ++ ents bs3 L) ++ ((G2 ++ ents bs2 srcs) ++ (G1 ++ ents bs1 rows))) ++ aX nb cs GO bsO O GD bsD Y a D K) := by simpa only [List.append_assoc] using ((h.call k1).call k2).call k3
  exact agreesS SE h3 (fun e he => List.mem_append_right _ (by simp [aX, hS e he])) hc1.2.1.symm hc2.2.1.symm hc3.2.1.symm hf1 hf2 hf3 h81 h82 h83 (hc1.rdLow h3 (fun e he => by simp [he]) (fun e he => by simp [he])) (hc2.rdLow h3 (fun e he => by simp [he]) (fun e he => by simp [he])) (hc3.rd0 h3 (fun e he => by simp [he]) (fun e he => by simp [he]))
theorem al_set (h : St w0 w [] (aX nb cs GO bsO O GD bsD Y a D K)) (i : Nat) (v : Value) : St w0 (w.setCell ⟨nb, i, none⟩ v) [] (aX nb (cs.setIfInBounds i v) GO bsO O GD bsD Y a D K) :=
  St.setN (N1 := []) v i h
end

end Go.Proofs.Ytdbfkjhdnbmpeaa.Sk

namespace Go.Proofs.Ytdbfkjhdnbmpeaa.Sk
set_option linter.unusedSimpArgs false
set_option linter.unusedVariables false
open Go Go.RowKit Go.Proofs.Ytdbfkjhdnbmpeaa Go.Proofs.Ytdbfkjhdnbmpeaa.Mm Go.Proofs.Ytdbfkjhdnbmpeaa.Gf Go.Proofs.Ytdbfkjhdnbmpeaa.Wr Go.Proofs.Ytdbfkjhdnbmpeaa.Nb Go.Proofs.Ytdbfkjhdnbmpeaa.St

set_option maxRecDepth 100000 in
set_option maxHeartbeats 8000000 in
theorem alike_calls {w0 : World} {k : Int} {c : Nat} {A1 A2 A3 A4 A5 A6 : Option Addr} {n1 n2 n3 n4 n5 n6 c1 c2 c3 c4 c5 c6 : Nat} {f t : Int} {row dst src : List Nat} {rows srcs dsts : List (List Nat)} (l1 : row.length = n1) (l2 : rows.length = n2) (l3 : srcs.length = n3) (l4 : dsts.length = n4) (l5 : dst.length = n5) (l6 : src.length = n6) (u1 : n1 ≤ 140737488351232) (u5 : n5 ≤ 140737488351232) (u6 : n6 ≤ 140737488351232) (hc : c < 256) (r1 : Rd w0 A1 row) (r2 : RdL w0 [] A2 rows) (r3 : RdL w0 [] A3 srcs) (r4 : RdL w0 [] A4 dsts) (r5 : Rd w0 A5 dst) (r6 : Rd w0 A6 src) (f2 : Fit rows) (f3 : Fit srcs) (f4 : Fit dsts) (b1 : B8 row) (b2 : B8L rows) (b3 : B8L srcs) (b4 : B8L dsts) (b5 : B8 dst) (b6 : B8 src) :
    Calls Try.prog 4 #[.agg (callC k c A1 A2 A3 A4 A5 A6 n1 n2 n3 n4 n5 n6 c1 c2 c3 c4 c5 c6 f t)] w0 fun e w' => e = .returned (.bool true) ∧ St w0 w' [] [] := by
  have S0 := Lib.hid (St.start w0); have L1 := Lib.hid l1; have L2 := Lib.hid l2; have L3 := Lib.hid l3; have L4 := Lib.hid l4; have L5 := Lib.hid l5; have L6 := Lib.hid l6; have R1 := Lib.hid r1; have R2 := Lib.hid r2; have R3 := Lib.hid r3; have R4 := Lib.hid r4; have R5 := Lib.hid r5; have R6 := Lib.hid r6; have F2 := Lib.hid f2; have F3 := Lib.hid f3; have F4 := Lib.hid f4; have B1 := Lib.hid b1; have B2 := Lib.hid b2; have B3 := Lib.hid b3; have B4 := Lib.hid b4; have B5 := Lib.hid b5; have B6 := Lib.hid b6; have U1 := Lib.hid u1; have U5 := Lib.hid u5; have U6 := Lib.hid u6
  clear l1 l2 l3 l4 l5 l6 r1 r2 r3 r4 r5 r6 f2 f3 f4 b1 b2 b3 b4 b5 b6
  go_enter Try.func4, Try.ntmps4
  go_wp2_with ((with_reducible refine at_slot (N := 1) rfl ?_); refine box_law rfl _ _ (callC k c A1 A2 A3 A4 A5 A6 n1 n2 n3 n4 n5 n6 c1 c2 c3 c4 c5 c6 f t) rfl rfl S0.out ?_; intro ob w1 h1; (try simp only [World.size_alloc, List.nil_append, List.cons_append, List.append_eq] at h1); have S1 := Lib.hid h1; clear h1 S0)
  refine (sets3_st _).mono ?_
  rintro e w2 ⟨lb, cl, K0, rfl, hq3, hh⟩
  have h2 := S1.out.call hh; clear hh S1
  try simp only [List.nil_append, List.cons_append, List.append_eq, Int.toNat_natCast] at h2
  have H30 := Lib.hid hq3; clear hq3
  have S2 := Lib.hid h2; clear h2
  go_wp2_with fail
  refine (fixed_st _).mono ?_
  rintro e w3 ⟨rfl, hh⟩
  have h3 := S2.out.call hh; clear hh S2
  try simp only [List.nil_append, List.cons_append, List.append_eq, Int.toNat_natCast] at h3
  have S3 := Lib.hid h3; clear h3
  obtain ⟨K1, hK1⟩ : ∃ K1, Hid (K0 ++ [⟨ob, 42, callC k c A1 A2 A3 A4 A5 A6 n1 n2 n3 n4 n5 n6 c1 c2 c3 c4 c5 c6 f t⟩] = K1) := ⟨_, Lib.hid rfl⟩
  have H31 : Hid (Sets3 lb K1) := Lib.hid (H30.out.more (fun e he => by rw [← hK1.out]; simp [he]))
  have HB1 : Hid ((⟨ob, 42, callC k c A1 A2 A3 A4 A5 A6 n1 n2 n3 n4 n5 n6 c1 c2 c3 c4 c5 c6 f t⟩ : Ent) ∈ K1) := Lib.hid (by rw [← hK1.out]; simp)
  have S5 : Hid (St w0 w3 [] K1) := Lib.hid (by rw [← hK1.out]; exact S3.out)
  clear H30 hK1
  obtain ⟨_, _, _, _, _, _, _, _, z8, z9⟩ := call_cells S5.out HB1.out
  go_wp2_with fail
  clear z8 z9
  have h7 := (S5.out.alloc 32 #[.int .i64 f, .int .i64 t]).alloc 43 #[.int .i64 0, .int .i64 0, .int .i64 0, .int .i64 0, .int .i64 0]; clear S5
  simp only [World.size_alloc] at h7
  have S7 := Lib.hid h7; clear h7
  generalize w3.heap.size + 1 = eb at *
  generalize w3.heap.size = sb at *
  generalize (w3.alloc (.cells #[.int .i64 f, .int .i64 t] 32 (0, 0))).alloc (.cells #[.int .i64 0, .int .i64 0, .int .i64 0, .int .i64 0, .int .i64 0] 43 (0, 0)) = w7 at *
  have HC : Hid (∀ (w' : World) (N' : List Ent), St w0 w' [] N' → (∀ e ∈ (⟨sb, 32, #[.int .i64 f, .int .i64 t]⟩ : Ent) :: K1, e ∈ N') → w'.cell? ⟨ob, 1, none⟩ = some (.int .u8 (c : Int)) ∧ w'.cell? ⟨ob, 2, none⟩ = some (.slice A1 n1 c1) ∧ w'.cell? ⟨ob, 3, none⟩ = some (.slice A2 n2 c2) ∧ w'.cell? ⟨ob, 4, none⟩ = some (.slice A3 n3 c3) ∧ w'.cell? ⟨ob, 5, none⟩ = some (.slice A4 n4 c4) ∧ w'.cell? ⟨ob, 6, none⟩ = some (.slice A5 n5 c5) ∧ w'.cell? ⟨ob, 7, none⟩ = some (.slice A6 n6 c6) ∧ w'.cell? ⟨sb, 0, none⟩ = some (.int .i64 f) ∧ w'.cell? ⟨sb, 1, none⟩ = some (.int .i64 t)) := Lib.hid (fun w' N' hs hm => by
    obtain ⟨_, g1, g2, g3, g4, g5, g6, g7, _⟩ := call_cells hs (hm _ (List.mem_cons_of_mem _ HB1.out))
    exact ⟨g1, g2, g3, g4, g5, g6, g7, (hs.blk (hm _ mem0)).cell (i := 0) rfl, (hs.blk (hm _ mem0)).cell (i := 1) rfl⟩)
  have HA : Hid (addD c dst src = addD c dst src ∧ True) := Lib.hid ⟨rfl, trivial⟩
  obtain ⟨D1, HD1⟩ : ∃ D1, Hid (addD c dst src = D1) := ⟨_, Lib.hid rfl⟩
  have LD1 : Hid (D1.length = n5) := Lib.hid (by rw [← HD1.out, addD_length, L5.out])
  have B81 : Hid (B8 D1) := Lib.hid (by rw [← HD1.out]; exact addD_b8 hc B5.out B6.out)
  obtain ⟨D2, HD2⟩ : ∃ D2, Hid (dotD row srcs D1 = D2) := ⟨_, Lib.hid rfl⟩
  have LD2 : Hid (D2.length = n5) := Lib.hid (by rw [← HD2.out, dotD_length, LD1.out])
  have B82 : Hid (B8 D2) := Lib.hid (by rw [← HD2.out]; exact dotD_b8 B81.out B1.out)
  obtain ⟨Y, HY⟩ : ∃ Y, Hid (appE rows srcs dsts f t = Y) := ⟨_, Lib.hid rfl⟩
  have YL : Hid (Y.map (·.length) = dsts.map (·.length)) := Lib.hid (by rw [← HY.out]; exact appE_len)
  have Y8 : Hid (B8L Y) := Lib.hid (by rw [← HY.out]; exact appE_b8 B2.out B4.out)
  have YF := Lib.hid (F4.out.len YL.out)
  obtain ⟨Z, HZ⟩ : ∃ Z, Hid (sprD row src dsts f t = Z) := ⟨_, Lib.hid rfl⟩
  have ZL : Hid (Z.map (·.length) = dsts.map (·.length)) := Lib.hid (by rw [← HZ.out]; exact sprD_len)
  have Z8 : Hid (B8L Z) := Lib.hid (by rw [← HZ.out]; exact sprD_b8 B1.out B4.out)
  have ZF := Lib.hid (F4.out.len ZL.out)
  obtain ⟨E1, HE1⟩ : ∃ E, Hid (lenE n5 n6 = E) := ⟨_, Lib.hid rfl⟩
  obtain ⟨E2, HE2⟩ : ∃ E, Hid (dotE row srcs n5 = E) := ⟨_, Lib.hid rfl⟩
  obtain ⟨E3, HE3⟩ : ∃ E, Hid (fitsE rows srcs dsts f t = E) := ⟨_, Lib.hid rfl⟩
  obtain ⟨E4, HE4⟩ : ∃ E, Hid (sprE row src dsts f t = E) := ⟨_, Lib.hid rfl⟩
  obtain ⟨yes, HG⟩ : ∃ b, Hid (agrE rows srcs dsts f t = b) := ⟨_, Lib.hid rfl⟩
  clear HA
  go_loopw [33, 5, 6, 8] (fun vi v5 v6 v8 wq => ∃ (i : Nat) (ce : Array Value) (X : List Ent), i ≤ 3 ∧ vi = .int .i64 i ∧ (∀ e ∈ (⟨sb, 32, #[.int .i64 f, .int .i64 t]⟩ : Ent) :: K1, e ∈ X) ∧ St w0 wq [] (⟨eb, 43, ce⟩ :: X) ∧ ((i = 0 ∧ ce = #[.int .i64 0, .int .i64 0, .int .i64 0, .int .i64 0, .int .i64 0]) ∨ (0 < i ∧ ∃ AF cF AO cO, v5 = .slice AF (n4 + 1) cF ∧ v6 = .slice AO n4 cO ∧ v8 = .bool yes ∧ ce = #[.int .i64 E1, .int .i64 E2, .int .i64 E3, .int .i64 E4, .int .i64 E3] ∧ ∀ (w' : World) (N' : List Ent), St w0 w' [] N' → (∀ e ∈ X, e ∈ N') → RdL w' [] AF (Y ++ [D2]) ∧ RdL w' [] AO Z))) (fun vi _ _ _ _ => 3 - (intOf vi).toNat)
  case atStart => exact ⟨0, _, _, by omega, rfl, fun e he => he, S7.out, .inl ⟨rfl, rfl⟩⟩
  case round =>
    clear S7
    obtain ⟨i, ce, X, hi, rfl, hX, hs, hcase⟩ := hrel
    have S2 := Lib.hid hs; have HX := Lib.hid hX; have HCS := Lib.hid hcase; clear hs hX hcase
    by_cases hlt : i < 3
    · obtain ⟨p, S, hSE, hSM, hcell⟩ := H31.out i hlt
      have SE := Lib.hid hSE
      have SM : Hid (∀ e ∈ S, e ∈ (⟨eb, 43, ce⟩ : Ent) :: X) := Lib.hid (fun e he => List.mem_cons_of_mem _ (HX.out e (List.mem_cons_of_mem _ (hSM e he))))
      have x4 := hcell _ _ _ S2.out (fun e he => List.mem_cons_of_mem _ (HX.out e (List.mem_cons_of_mem _ he)))
      clear hSE hSM hcell
      have i1 : (i : Int) < 3 := by omega
      have HM : Hid (∀ (w' : World) (N' : List Ent), St w0 w' [] N' → (∀ e ∈ X, e ∈ N') → w'.cell? ⟨ob, 1, none⟩ = some (.int .u8 (c : Int)) ∧ w'.cell? ⟨ob, 2, none⟩ = some (.slice A1 n1 c1) ∧ w'.cell? ⟨ob, 3, none⟩ = some (.slice A2 n2 c2) ∧ w'.cell? ⟨ob, 4, none⟩ = some (.slice A3 n3 c3) ∧ w'.cell? ⟨ob, 5, none⟩ = some (.slice A4 n4 c4) ∧ w'.cell? ⟨ob, 6, none⟩ = some (.slice A5 n5 c5) ∧ w'.cell? ⟨ob, 7, none⟩ = some (.slice A6 n6 c6) ∧ w'.cell? ⟨sb, 0, none⟩ = some (.int .i64 f) ∧ w'.cell? ⟨sb, 1, none⟩ = some (.int .i64 t)) := Lib.hid (fun w' N' hs hm => HC.out w' N' hs (fun e he => hm e (HX.out e he)))
      go_wp2_with fail
      clear x4
      have S3 := Lib.hid S2.out.drew; clear S2
      go_region_held3 (fun w' => w'.cell? ⟨ob, 1, none⟩ = some (.int .u8 (c : Int)) ∧ w'.cell? ⟨ob, 2, none⟩ = some (.slice A1 n1 c1) ∧ w'.cell? ⟨ob, 3, none⟩ = some (.slice A2 n2 c2) ∧ w'.cell? ⟨ob, 4, none⟩ = some (.slice A3 n3 c3) ∧ w'.cell? ⟨ob, 5, none⟩ = some (.slice A4 n4 c4) ∧ w'.cell? ⟨ob, 6, none⟩ = some (.slice A5 n5 c5) ∧ w'.cell? ⟨ob, 7, none⟩ = some (.slice A6 n6 c6) ∧ w'.cell? ⟨sb, 0, none⟩ = some (.int .i64 f) ∧ w'.cell? ⟨sb, 1, none⟩ = some (.int .i64 t)) (first | exact HM.out _ _ S3.out (fun e he => by simp [he]) | exact HM.out _ _ S4.out (fun e he => by simp [he]) | exact HM.out _ _ S5.out (fun e he => by simp [he]) | exact HM.out _ _ S6.out (fun e he => by simp [he]) | exact HM.out _ _ S7.out (fun e he => by simp [he]) | exact HM.out _ _ S8.out (fun e he => by simp [he]) | exact HM.out _ _ S9.out (fun e he => by simp [he]) | exact HM.out _ _ S10.out (fun e he => by simp [he]) | exact HM.out _ _ S11.out (fun e he => by simp [he]) | go_keep) (first
        | (go_at_call 16; (with_reducible refine (copied_st L5.out (by omega) (S3.out.ext R5.out)).mono ?_); rintro e w4 ⟨a, rfl, hh⟩; have K4 := Lib.hid hh; have h4 := S3.out.call hh; clear hh; (try simp only [List.nil_append, List.cons_append, List.append_eq, Int.toNat_natCast] at h4); have S4 := Lib.hid h4; clear h4)
        | (go_at_call 13; (with_reducible refine (copies_st L4.out F4.out (S4.out.extL R4.out)).mono ?_); rintro e w5 ⟨AD, cD, bsD, GD, rfl, hc, hh⟩; have K5 := Lib.hid hh; have C5 := Lib.hid hc; clear hc; have h5 := S4.out.call hh; clear hh S4; (try simp only [List.nil_append, List.cons_append, List.append_eq, Int.toNat_natCast] at h5); have S5 := Lib.hid h5; clear h5)
        | (go_at_call 13; (with_reducible refine (copies_st L4.out F4.out (S5.out.extL R4.out)).mono ?_); rintro e w6 ⟨AO, cO, bsO, GO, rfl, hc, hh⟩; have K6 := Lib.hid hh; have C6 := Lib.hid hc; clear hc; have h6 := S5.out.call hh; clear hh S5; (try simp only [List.nil_append, List.cons_append, List.append_eq, Int.toNat_natCast] at h6); have S6 := Lib.hid h6; clear h6))
      go_wp2_with fail
      obtain ⟨K, HK⟩ : ∃ K, Hid ((⟨eb, 43, ce⟩ : Ent) :: X = K) := ⟨_, Lib.hid rfl⟩
      have h7 := S6.out.alloc 43 #[.int .i64 0, .int .i64 0, .int .i64 0, .int .i64 0, .int .i64 0]
      have S7 : Hid (St w0 (w6.alloc (.cells #[.int .i64 0, .int .i64 0, .int .i64 0, .int .i64 0, .int .i64 0] 43 (0, 0))) [] (aX w6.heap.size #[.int .i64 0, .int .i64 0, .int .i64 0, .int .i64 0, .int .i64 0] GO bsO dsts GD bsD dsts a dst K)) := Lib.hid (by rw [← HK.out]; simpa only [aX, List.append_assoc, List.cons_append, List.nil_append] using h7)
      have CD := C5; have CO := C6
      have SMK : Hid (∀ e ∈ S, e ∈ K) := Lib.hid (by rw [← HK.out]; exact SM.out)
      have HM2 : Hid (∀ (w' : World) (N' : List Ent), St w0 w' [] N' → (∀ e ∈ K, e ∈ N') → w'.cell? ⟨ob, 1, none⟩ = some (.int .u8 (c : Int)) ∧ w'.cell? ⟨ob, 2, none⟩ = some (.slice A1 n1 c1) ∧ w'.cell? ⟨ob, 3, none⟩ = some (.slice A2 n2 c2) ∧ w'.cell? ⟨ob, 4, none⟩ = some (.slice A3 n3 c3) ∧ w'.cell? ⟨ob, 5, none⟩ = some (.slice A4 n4 c4) ∧ w'.cell? ⟨ob, 6, none⟩ = some (.slice A5 n5 c5) ∧ w'.cell? ⟨ob, 7, none⟩ = some (.slice A6 n6 c6) ∧ w'.cell? ⟨sb, 0, none⟩ = some (.int .i64 f) ∧ w'.cell? ⟨sb, 1, none⟩ = some (.int .i64 t)) := Lib.hid (fun w' N' hs hm => HM.out w' N' hs (fun e he => hm e (by rw [← HK.out]; exact List.mem_cons_of_mem _ he)))
      clear h7 S6 K4 K5 K6 C5 C6 SM HM
      generalize w6.heap.size = nb at *
      generalize w6.alloc (.cells #[.int .i64 0, .int .i64 0, .int .i64 0, .int .i64 0, .int .i64 0] 43 (0, 0)) = w7 at *
      have S8 := Lib.hid S7.out.drew; clear S7
      go_region_held3 (fun w' => w'.cell? ⟨ob, 1, none⟩ = some (.int .u8 (c : Int)) ∧ w'.cell? ⟨ob, 2, none⟩ = some (.slice A1 n1 c1) ∧ w'.cell? ⟨ob, 3, none⟩ = some (.slice A2 n2 c2) ∧ w'.cell? ⟨ob, 4, none⟩ = some (.slice A3 n3 c3) ∧ w'.cell? ⟨ob, 5, none⟩ = some (.slice A4 n4 c4) ∧ w'.cell? ⟨ob, 6, none⟩ = some (.slice A5 n5 c5) ∧ w'.cell? ⟨ob, 7, none⟩ = some (.slice A6 n6 c6) ∧ w'.cell? ⟨sb, 0, none⟩ = some (.int .i64 f) ∧ w'.cell? ⟨sb, 1, none⟩ = some (.int .i64 t)) (first | exact HM2.out _ _ S8.out (by intro e he; simp [he]) | exact HM2.out _ _ S9.out (by intro e he; simp [he]) | exact HM2.out _ _ S10.out (by intro e he; simp [he]) | exact HM2.out _ _ S11.out (by intro e he; simp [he]) | exact HM2.out _ _ S12.out (by intro e he; simp [he]) | exact HM2.out _ _ (al_set S8.out 0 _) (by intro e he; simp [he]) | exact HM2.out _ _ (al_set S9.out 0 _) (by intro e he; simp [he]) | exact HM2.out _ _ (al_set S10.out 0 _) (by intro e he; simp [he]) | exact HM2.out _ _ (al_set S11.out 0 _) (by intro e he; simp [he]) | exact HM2.out _ _ (al_set S12.out 0 _) (by intro e he; simp [he]) | go_keep) (first
        | (go_at_call 16; (with_reducible refine (copied_st L6.out (by omega) (S8.out.ext R6.out)).mono ?_); rintro e w9 ⟨r, rfl, hh⟩; have K9 := Lib.hid hh; have h9 := S8.out.call hh; clear hh; (try simp only [List.nil_append, List.cons_append, List.append_eq, Int.toNat_natCast] at h9); have S9 := Lib.hid h9; clear h9)
        | (go_at_call 17; (with_reducible refine (al_add SE.out S8.out SMK.out K9.out hc L5.out B5.out L6.out B6.out U5.out).mono ?_); rintro e w10 ⟨rfl, hh⟩; simp only [HE1.out]; rw [HD1.out] at hh; have y0 := (hh.blk mem0).cell (i := 0) rfl; have f0 := (hh.blk mem0).free (i := 0); have S10 := Lib.hid hh; clear hh K9 S8 S9))
      go_wp2_with fail
      have S11 : Hid (St w0 (w10.setCell ⟨nb, 0, none⟩ (.int .i64 E1)) [] (aX nb #[.int .i64 E1, .int .i64 0, .int .i64 0, .int .i64 0, .int .i64 0] GO bsO dsts GD bsD dsts a D1 K)) := Lib.hid (al_set S10.out 0 (.int .i64 E1))
      clear y0 f0 S10
      generalize w10.setCell ⟨nb, 0, none⟩ (.int .i64 E1) = w11 at *
      have S12 := Lib.hid S11.out.drew; clear S11
      go_region_held3 (fun w' => w'.cell? ⟨ob, 1, none⟩ = some (.int .u8 (c : Int)) ∧ w'.cell? ⟨ob, 2, none⟩ = some (.slice A1 n1 c1) ∧ w'.cell? ⟨ob, 3, none⟩ = some (.slice A2 n2 c2) ∧ w'.cell? ⟨ob, 4, none⟩ = some (.slice A3 n3 c3) ∧ w'.cell? ⟨ob, 5, none⟩ = some (.slice A4 n4 c4) ∧ w'.cell? ⟨ob, 6, none⟩ = some (.slice A5 n5 c5) ∧ w'.cell? ⟨ob, 7, none⟩ = some (.slice A6 n6 c6) ∧ w'.cell? ⟨sb, 0, none⟩ = some (.int .i64 f) ∧ w'.cell? ⟨sb, 1, none⟩ = some (.int .i64 t)) (first | exact HM2.out _ _ S12.out (by intro e he; simp [he]) | exact HM2.out _ _ S13.out (by intro e he; simp [he]) | exact HM2.out _ _ S14.out (by intro e he; simp [he]) | exact HM2.out _ _ S15.out (by intro e he; simp [he]) | exact HM2.out _ _ S16.out (by intro e he; simp [he]) | exact HM2.out _ _ (al_set S12.out 1 _) (by intro e he; simp [he]) | exact HM2.out _ _ (al_set S13.out 1 _) (by intro e he; simp [he]) | exact HM2.out _ _ (al_set S14.out 1 _) (by intro e he; simp [he]) | exact HM2.out _ _ (al_set S15.out 1 _) (by intro e he; simp [he]) | exact HM2.out _ _ (al_set S16.out 1 _) (by intro e he; simp [he]) | go_keep) (first
        | (go_at_call 16; (with_reducible refine (copied_st L1.out (by omega) (S12.out.ext R1.out)).mono ?_); rintro e w13 ⟨r1, rfl, hh⟩; have K13 := Lib.hid hh; have h13 := S12.out.call hh; clear hh; (try simp only [List.nil_append, List.cons_append, List.append_eq, Int.toNat_natCast] at h13); have S13 := Lib.hid h13; clear h13)
        | (go_at_call 13; (with_reducible refine (copies_st L3.out F3.out (S13.out.extL R3.out)).mono ?_); rintro e w14 ⟨AS, cS, bsS, GS, rfl, hc, hh⟩; have K14 := Lib.hid hh; have C14 := Lib.hid hc; clear hc; have h14 := S13.out.call hh; clear hh S13; (try simp only [List.nil_append, List.cons_append, List.append_eq, Int.toNat_natCast] at h14); have S14 := Lib.hid h14; clear h14)
        | (go_at_call 18; (with_reducible refine (al_dot SE.out S12.out SMK.out K13.out K14.out C14.out LD1.out B81.out L1.out B1.out F3.out B3.out U5.out).mono ?_); rintro e w15 ⟨rfl, hh⟩; simp only [HE2.out]; rw [HD2.out] at hh; have y0 := (hh.blk mem0).cell (i := 1) rfl; have f0 := (hh.blk mem0).free (i := 1); have S15 := Lib.hid hh; clear hh C14 K13 K14 S12 S14))
      go_wp2_with fail
      have S16 : Hid (St w0 (w15.setCell ⟨nb, 1, none⟩ (.int .i64 E2)) [] (aX nb #[.int .i64 E1, .int .i64 E2, .int .i64 0, .int .i64 0, .int .i64 0] GO bsO dsts GD bsD dsts a D2 K)) := Lib.hid (al_set S15.out 1 (.int .i64 E2))
      clear y0 f0 S15
      generalize w15.setCell ⟨nb, 1, none⟩ (.int .i64 E2) = w16 at *
      have S17 := Lib.hid S16.out.drew; clear S16
      go_region_held3 (fun w' => w'.cell? ⟨ob, 1, none⟩ = some (.int .u8 (c : Int)) ∧ w'.cell? ⟨ob, 2, none⟩ = some (.slice A1 n1 c1) ∧ w'.cell? ⟨ob, 3, none⟩ = some (.slice A2 n2 c2) ∧ w'.cell? ⟨ob, 4, none⟩ = some (.slice A3 n3 c3) ∧ w'.cell? ⟨ob, 5, none⟩ = some (.slice A4 n4 c4) ∧ w'.cell? ⟨ob, 6, none⟩ = some (.slice A5 n5 c5) ∧ w'.cell? ⟨ob, 7, none⟩ = some (.slice A6 n6 c6) ∧ w'.cell? ⟨sb, 0, none⟩ = some (.int .i64 f) ∧ w'.cell? ⟨sb, 1, none⟩ = some (.int .i64 t)) (first | exact HM2.out _ _ S17.out (by intro e he; simp [he]) | exact HM2.out _ _ S18.out (by intro e he; simp [he]) | exact HM2.out _ _ S19.out (by intro e he; simp [he]) | exact HM2.out _ _ S20.out (by intro e he; simp [he]) | exact HM2.out _ _ S21.out (by intro e he; simp [he]) | exact HM2.out _ _ (al_set S17.out 2 _) (by intro e he; simp [he]) | exact HM2.out _ _ (al_set S18.out 2 _) (by intro e he; simp [he]) | exact HM2.out _ _ (al_set S19.out 2 _) (by intro e he; simp [he]) | exact HM2.out _ _ (al_set S20.out 2 _) (by intro e he; simp [he]) | exact HM2.out _ _ (al_set S21.out 2 _) (by intro e he; simp [he]) | go_keep) (first
        | (go_at_call 13; (with_reducible refine (copies_st L2.out F2.out (S17.out.extL R2.out)).mono ?_); rintro e w18 ⟨AR, cR, bsR, GR, rfl, hc, hh⟩; have K18 := Lib.hid hh; have C18 := Lib.hid hc; clear hc; have h18 := S17.out.call hh; clear hh; (try simp only [List.nil_append, List.cons_append, List.append_eq, Int.toNat_natCast] at h18); have S18 := Lib.hid h18; clear h18)
        | (go_at_call 13; (with_reducible refine (copies_st L3.out F3.out (S18.out.extL R3.out)).mono ?_); rintro e w19 ⟨AS, cS, bsS, GS, rfl, hc, hh⟩; have K19 := Lib.hid hh; have C19 := Lib.hid hc; clear hc; have h19 := S18.out.call hh; clear hh S18; (try simp only [List.nil_append, List.cons_append, List.append_eq, Int.toNat_natCast] at h19); have S19 := Lib.hid h19; clear h19)
        | (go_at_call 14; (with_reducible refine (al_app (f := f) (t := t) SE.out S17.out SMK.out CD.out K18.out C18.out K19.out C19.out F2.out F3.out F4.out B2.out B3.out B4.out).mono ?_); rintro e w20 ⟨rfl, hh⟩; simp only [HE3.out]; rw [HY.out] at hh; have y0 := (hh.blk mem0).cell (i := 2) rfl; have f0 := (hh.blk mem0).free (i := 2); have S20 := Lib.hid hh; clear hh C18 C19 K18 K19 S17 S19))
      go_wp2_with fail
      have S21 : Hid (St w0 (w20.setCell ⟨nb, 2, none⟩ (.int .i64 E3)) [] (aX nb #[.int .i64 E1, .int .i64 E2, .int .i64 E3, .int .i64 0, .int .i64 0] GO bsO dsts GD bsD Y a D2 K)) := Lib.hid (al_set S20.out 2 (.int .i64 E3))
      clear y0 f0 S20
      generalize w20.setCell ⟨nb, 2, none⟩ (.int .i64 E3) = w21 at *
      have S22 := Lib.hid S21.out.drew; clear S21
      go_region_held3 (fun w' => w'.cell? ⟨ob, 1, none⟩ = some (.int .u8 (c : Int)) ∧ w'.cell? ⟨ob, 2, none⟩ = some (.slice A1 n1 c1) ∧ w'.cell? ⟨ob, 3, none⟩ = some (.slice A2 n2 c2) ∧ w'.cell? ⟨ob, 4, none⟩ = some (.slice A3 n3 c3) ∧ w'.cell? ⟨ob, 5, none⟩ = some (.slice A4 n4 c4) ∧ w'.cell? ⟨ob, 6, none⟩ = some (.slice A5 n5 c5) ∧ w'.cell? ⟨ob, 7, none⟩ = some (.slice A6 n6 c6) ∧ w'.cell? ⟨sb, 0, none⟩ = some (.int .i64 f) ∧ w'.cell? ⟨sb, 1, none⟩ = some (.int .i64 t)) (first | exact HM2.out _ _ S22.out (by intro e he; simp [he]) | exact HM2.out _ _ S23.out (by intro e he; simp [he]) | exact HM2.out _ _ S24.out (by intro e he; simp [he]) | exact HM2.out _ _ S25.out (by intro e he; simp [he]) | exact HM2.out _ _ S26.out (by intro e he; simp [he]) | exact HM2.out _ _ (al_set S22.out 3 _) (by intro e he; simp [he]) | exact HM2.out _ _ (al_set S23.out 3 _) (by intro e he; simp [he]) | exact HM2.out _ _ (al_set S24.out 3 _) (by intro e he; simp [he]) | exact HM2.out _ _ (al_set S25.out 3 _) (by intro e he; simp [he]) | exact HM2.out _ _ (al_set S26.out 3 _) (by intro e he; simp [he]) | go_keep) (first
        | (go_at_call 16; (with_reducible refine (copied_st L1.out (by omega) (S22.out.ext R1.out)).mono ?_); rintro e w23 ⟨r1, rfl, hh⟩; have K23 := Lib.hid hh; have h23 := S22.out.call hh; clear hh; (try simp only [List.nil_append, List.cons_append, List.append_eq, Int.toNat_natCast] at h23); have S23 := Lib.hid h23; clear h23)
        | (go_at_call 16; (with_reducible refine (copied_st L6.out (by omega) (S23.out.ext R6.out)).mono ?_); rintro e w24 ⟨r6, rfl, hh⟩; have K24 := Lib.hid hh; have h24 := S23.out.call hh; clear hh S23; (try simp only [List.nil_append, List.cons_append, List.append_eq, Int.toNat_natCast] at h24); have S24 := Lib.hid h24; clear h24)
        | (go_at_call 19; (with_reducible refine (al_spr (f := f) (t := t) SE.out S22.out SMK.out CO.out K23.out K24.out L1.out L6.out F4.out U6.out B1.out B6.out B4.out).mono ?_); rintro e w25 ⟨rfl, hh⟩; simp only [HE4.out]; rw [HZ.out] at hh; have y0 := (hh.blk mem0).cell (i := 3) rfl; have f0 := (hh.blk mem0).free (i := 3); have S25 := Lib.hid hh; clear hh K23 K24 S22 S24))
      go_wp2_with fail
      have S26 : Hid (St w0 (w25.setCell ⟨nb, 3, none⟩ (.int .i64 E4)) [] (aX nb #[.int .i64 E1, .int .i64 E2, .int .i64 E3, .int .i64 E4, .int .i64 0] GO bsO Z GD bsD Y a D2 K)) := Lib.hid (al_set S25.out 3 (.int .i64 E4))
      clear y0 f0 S25
      generalize w25.setCell ⟨nb, 3, none⟩ (.int .i64 E4) = w26 at *
      have S27 := Lib.hid S26.out.drew; clear S26
      go_region_held3 (fun w' => w'.cell? ⟨ob, 1, none⟩ = some (.int .u8 (c : Int)) ∧ w'.cell? ⟨ob, 2, none⟩ = some (.slice A1 n1 c1) ∧ w'.cell? ⟨ob, 3, none⟩ = some (.slice A2 n2 c2) ∧ w'.cell? ⟨ob, 4, none⟩ = some (.slice A3 n3 c3) ∧ w'.cell? ⟨ob, 5, none⟩ = some (.slice A4 n4 c4) ∧ w'.cell? ⟨ob, 6, none⟩ = some (.slice A5 n5 c5) ∧ w'.cell? ⟨ob, 7, none⟩ = some (.slice A6 n6 c6) ∧ w'.cell? ⟨sb, 0, none⟩ = some (.int .i64 f) ∧ w'.cell? ⟨sb, 1, none⟩ = some (.int .i64 t)) (first | exact HM2.out _ _ S27.out (by intro e he; simp [he]) | exact HM2.out _ _ S28.out (by intro e he; simp [he]) | exact HM2.out _ _ S29.out (by intro e he; simp [he]) | exact HM2.out _ _ S30.out (by intro e he; simp [he]) | exact HM2.out _ _ S31.out (by intro e he; simp [he]) | exact HM2.out _ _ (al_set S27.out 4 _) (by intro e he; simp [he]) | exact HM2.out _ _ (al_set S28.out 4 _) (by intro e he; simp [he]) | exact HM2.out _ _ (al_set S29.out 4 _) (by intro e he; simp [he]) | exact HM2.out _ _ (al_set S30.out 4 _) (by intro e he; simp [he]) | exact HM2.out _ _ (al_set S31.out 4 _) (by intro e he; simp [he]) | go_keep) (first
        | (go_at_call 13; (with_reducible refine (copies_st L2.out F2.out (S27.out.extL R2.out)).mono ?_); rintro e w28 ⟨AR, cR, bsR, GR, rfl, hc, hh⟩; have K28 := Lib.hid hh; have C28 := Lib.hid hc; clear hc; have h28 := S27.out.call hh; clear hh; (try simp only [List.nil_append, List.cons_append, List.append_eq, Int.toNat_natCast] at h28); have S28 := Lib.hid h28; clear h28)
        | (go_at_call 13; (with_reducible refine (copies_st L3.out F3.out (S28.out.extL R3.out)).mono ?_); rintro e w29 ⟨AS, cS, bsS, GS, rfl, hc, hh⟩; have K29 := Lib.hid hh; have C29 := Lib.hid hc; clear hc; have h29 := S28.out.call hh; clear hh S28; (try simp only [List.nil_append, List.cons_append, List.append_eq, Int.toNat_natCast] at h29); have S29 := Lib.hid h29; clear h29)
        | (go_at_call 13; (with_reducible refine (copies_st L4.out F4.out (S29.out.extL R4.out)).mono ?_); rintro e w30 ⟨AT, cT, bsT, GT, rfl, hc, hh⟩; have K30 := Lib.hid hh; have C30 := Lib.hid hc; clear hc; have h30 := S29.out.call hh; clear hh S29; (try simp only [List.nil_append, List.cons_append, List.append_eq, Int.toNat_natCast] at h30); have S30 := Lib.hid h30; clear h30)
        | (go_at_call 15; (with_reducible refine (al_agr (f := f) (t := t) SE.out S27.out SMK.out K28.out C28.out K29.out C29.out K30.out C30.out F2.out F3.out F4.out B2.out B3.out B4.out).mono ?_); rintro e w31 ⟨rfl, hh⟩; simp only [HE3.out, HG.out]; have y0 := (hh.blk mem0).cell (i := 4) rfl; have f0 := (hh.blk mem0).free (i := 4); have S31 := Lib.hid hh; clear hh C28 C29 C30 K28 K29 K30 S27 S30))
      go_wp2_with fail
      have S32 : Hid (St w0 (w31.setCell ⟨nb, 4, none⟩ (.int .i64 E3)) [] (aX nb #[.int .i64 E1, .int .i64 E2, .int .i64 E3, .int .i64 E4, .int .i64 E3] GO bsO Z GD bsD Y a D2 K)) := Lib.hid (al_set S31.out 4 (.int .i64 E3))
      clear y0 f0 S31
      generalize w31.setCell ⟨nb, 4, none⟩ (.int .i64 E3) = w32 at *
      have CDY := Lib.hid (CD.out.len YL.out); have COZ := Lib.hid (CO.out.len ZL.out)
      have LY4 : Hid (Y.length = n4) := Lib.hid (by have := congrArg List.length YL.out; simpa [L4.out] using this)
      have LZ4 : Hid (Z.length = n4) := Lib.hid (by have := congrArg List.length ZL.out; simpa [L4.out] using this)
      clear CD CO S3
      refine (copies_st LY4.out YF.out (CDY.out.rd0 S32.out (fun e he => by simp [he]) (fun e he => by simp [he]))).mono ?_
      rintro e w33 ⟨AL, cL, bsL, GL, rfl, hcl, hh⟩
      have h33 := S32.out.call hh; clear hh S32
      try simp only [List.nil_append, List.cons_append, List.append_eq, Int.toNat_natCast] at h33
      have CL := Lib.hid hcl; clear hcl
      have S33 := Lib.hid h33; clear h33
      have HSL : Hid ((sds bsL Y).length = n4) := Lib.hid (by rw [sds_length CL.out.1, LY4.out])
      have hn4 : n4 * 24 ≤ 140737488351232 := by rw [← L4.out]; exact F4.out.1
      obtain ⟨M, HMM⟩ : ∃ M, Hid (aX nb #[.int .i64 E1, .int .i64 E2, .int .i64 E3, .int .i64 E4, .int .i64 E3] GO bsO Z GD bsD Y a D2 K = M) := ⟨_, Lib.hid rfl⟩
      have S34 : Hid (St w0 w33 [] (GL ++ (ents bsL Y ++ M))) := Lib.hid (by rw [← HMM.out]; simpa only [List.append_assoc] using S33.out)
      clear S33
      rcases HCS.out with ⟨rfl, hce⟩ | ⟨hi0, AF, cF, AO1, cO1, rfl, rfl, rfl, hce, hF⟩
      · subst hce
        clear HCS
        have q0 : (((0 : Nat) : Int) == 0) = true := rfl
        go_wp2_with (first
          | ((with_reducible refine at_slot (N := 108) rfl ?_); refine bslice_st rfl _ 39 1 _ (cellsV es [⟨some ⟨a, 0, none⟩, n5, n5⟩]) rfl (fun _ => by kernel_rfl) S34.out ?_; intro sb2 w35 h35; (try simp only [World.size_alloc, List.nil_append, List.cons_append, List.append_eq] at h35); have S35 := Lib.hid h35; clear h35 S34)
          | ((with_reducible refine at_slot (N := 109) rfl ?_); refine append_v (enc := es) (G := GL) (N := ents bsL Y ++ M) rfl _ _ 22 rfl ⟨none, 0, 0⟩ 24 Try.underlying22 info_sl9 rfl (fun _ => rfl) (.slice AL n4 cL) (sds bsL Y) rfl (S35.out.drop (List.sublist_cons_self _ _)) CL.out.2.2.1 (some ⟨sb2, 0, none⟩) 1 1 [⟨some ⟨a, 0, none⟩, n5, n5⟩] rfl rfl (S35.out.rdV (t := 39) mem0) (by rw [HSL.out]; show (n4 + 1) * 24 ≤ _; omega) (by rw [HSL.out]; show n4 + 1 ≤ _; unfold maxLen; omega) ?_; intro v9 w36 G2 h36 hg hz; obtain ⟨A9, c9, rfl⟩ := hg.shape; have ez : (sds bsL Y ++ [(⟨some ⟨a, 0, none⟩, n5, n5⟩ : Sd)]).length = n4 + 1 := (by rw [List.length_append, HSL.out]; rfl); rw [ez] at hg ⊢; have HGR := Lib.hid hg; clear hg hz ez; (try simp only [World.size_alloc, List.nil_append, List.cons_append, List.append_eq] at h36); have S36 := Lib.hid h36; clear h36 S35))
        have eM : (⟨nb, 43, #[.int .i64 E1, .int .i64 E2, .int .i64 E3, .int .i64 E4, .int .i64 E3]⟩ : Ent) ∈ G2 ++ (ents bsL Y ++ M) := by rw [← HMM.out]; simp
        have eE : (⟨eb, 43, #[.int .i64 0, .int .i64 0, .int .i64 0, .int .i64 0, .int .i64 0]⟩ : Ent) ∈ G2 ++ (ents bsL Y ++ M) := by rw [← HMM.out, ← HK.out]; simp
        have y0 := (S36.out.blk eM).cell (i := 0) rfl; have y1 := (S36.out.blk eM).cell (i := 1) rfl; have y2 := (S36.out.blk eM).cell (i := 2) rfl; have y3 := (S36.out.blk eM).cell (i := 3) rfl; have y4 := (S36.out.blk eM).cell (i := 4) rfl
        have x0 := (S36.out.blk eE).cell (i := 0) rfl; have x1 := (S36.out.blk eE).cell (i := 1) rfl; have x2 := (S36.out.blk eE).cell (i := 2) rfl; have x3 := (S36.out.blk eE).cell (i := 3) rfl; have x4 := (S36.out.blk eE).cell (i := 4) rfl
        have f0 := (S36.out.blk eE).free (i := 0); have f1 := (S36.out.blk eE).free (i := 1); have f2 := (S36.out.blk eE).free (i := 2); have f3 := (S36.out.blk eE).free (i := 3); have f4 := (S36.out.blk eE).free (i := 4)
        go_region
        have hs : St w0 w36 [] ((G2 ++ (ents bsL Y ++ (⟨nb, 43, #[.int .i64 E1, .int .i64 E2, .int .i64 E3, .int .i64 E4, .int .i64 E3]⟩ :: (GO ++ (ents bsO Z ++ (GD ++ (ents bsD Y ++ [bt a D2]))))))) ++ ⟨eb, 43, #[.int .i64 0, .int .i64 0, .int .i64 0, .int .i64 0, .int .i64 0]⟩ :: X) := by
          have := S36.out
          rw [← HMM.out, ← HK.out] at this
          simpa only [aX, List.append_assoc, List.cons_append, List.nil_append] using this
        have h37 := (al_all (.int .i64 E1) (.int .i64 E2) (.int .i64 E3) (.int .i64 E4) (.int .i64 E3) hs).drew.perm List.perm_middle
        have S37 := Lib.hid h37
        clear h37 hs x0 x1 x2 x3 x4 y0 y1 y2 y3 y4 f0 f1 f2 f3 f4 eM eE q0
        have C9 := Lib.hid (CopyL.snoc CL.out LD2.out HGR.out)
        go_wp2_with fail
        refine ⟨⟨1, _, _, by omega, by simp, fun e he => List.mem_append_right _ (HX.out e he), S37.out, .inr ⟨by omega, A9, c9, AO, cO, rfl, rfl, rfl, rfl, fun w' N' h hm => ⟨C9.out.rd0 h (fun e he => hm e (by simp [he])) (fun e he => hm e ?_), COZ.out.rd0 h (fun e he => hm e (by simp [he])) (fun e he => hm e (by simp [he]))⟩⟩⟩, ?_⟩
        · rw [ents_snoc CL.out.1] at he
          rcases List.mem_append.1 he with he | he
          · simp [he]
          · simp [List.mem_singleton.1 he]
        · simp [intOf]
      · subst hce
        clear HCS
        have HF := Lib.hid hF
        clear hF
        have q0 : ((i : Int) == 0) = false := by rw [beq_eq_false_iff_ne]; omega
        go_wp2_with (first
          | ((with_reducible refine at_slot (N := 108) rfl ?_); refine bslice_st rfl _ 39 1 _ (cellsV es [⟨some ⟨a, 0, none⟩, n5, n5⟩]) rfl (fun _ => by kernel_rfl) S34.out ?_; intro sb2 w35 h35; (try simp only [World.size_alloc, List.nil_append, List.cons_append, List.append_eq] at h35); have S35 := Lib.hid h35; clear h35 S34)
          | ((with_reducible refine at_slot (N := 109) rfl ?_); refine append_v (enc := es) (G := GL) (N := ents bsL Y ++ M) rfl _ _ 22 rfl ⟨none, 0, 0⟩ 24 Try.underlying22 info_sl9 rfl (fun _ => rfl) (.slice AL n4 cL) (sds bsL Y) rfl (S35.out.drop (List.sublist_cons_self _ _)) CL.out.2.2.1 (some ⟨sb2, 0, none⟩) 1 1 [⟨some ⟨a, 0, none⟩, n5, n5⟩] rfl rfl (S35.out.rdV (t := 39) mem0) (by rw [HSL.out]; show (n4 + 1) * 24 ≤ _; omega) (by rw [HSL.out]; show n4 + 1 ≤ _; unfold maxLen; omega) ?_; intro v9 w36 G2 h36 hg hz; obtain ⟨A9, c9, rfl⟩ := hg.shape; have ez : (sds bsL Y ++ [(⟨some ⟨a, 0, none⟩, n5, n5⟩ : Sd)]).length = n4 + 1 := (by rw [List.length_append, HSL.out]; rfl); rw [ez] at hg ⊢; have HGR := Lib.hid hg; clear hg hz ez; (try simp only [World.size_alloc, List.nil_append, List.cons_append, List.append_eq] at h36); have S36 := Lib.hid h36; clear h36 S35))
        have C9 := Lib.hid (CopyL.snoc CL.out LD2.out HGR.out)
        have LYD : Hid ((Y ++ [D2]).length = n4 + 1) := Lib.hid (by rw [List.length_append, LY4.out]; rfl)
        have HXM : ∀ e ∈ X, e ∈ G2 ++ (ents bsL Y ++ M) := fun e he => by rw [← HMM.out, ← HK.out]; simp [he]
        have E9 : Hid (∀ e ∈ ents (bsL ++ [a]) (Y ++ [D2]), e ∈ G2 ++ (ents bsL Y ++ M)) := Lib.hid (fun e he => by
          rw [ents_snoc CL.out.1] at he
          rcases List.mem_append.1 he with he | he
          · simp [he]
          · rw [← HMM.out]; simp [List.mem_singleton.1 he])
        have eM : (⟨nb, 43, #[.int .i64 E1, .int .i64 E2, .int .i64 E3, .int .i64 E4, .int .i64 E3]⟩ : Ent) ∈ G2 ++ (ents bsL Y ++ M) := by rw [← HMM.out]; simp
        have eE : (⟨eb, 43, #[.int .i64 E1, .int .i64 E2, .int .i64 E3, .int .i64 E4, .int .i64 E3]⟩ : Ent) ∈ G2 ++ (ents bsL Y ++ M) := by rw [← HMM.out, ← HK.out]; simp
        refine (all_wsame LYD.out (Wide.snoc YF.out (by rw [LD2.out]; exact U5.out)) (B8L.snoc Y8.out B82.out) (C9.out.rd0 S36.out (fun e he => by simp [he]) (E9.out)) (HF.out _ _ S36.out HXM).1).mono ?_
        rintro e _ ⟨rfl, n37, rfl⟩
        have h37 := S36.out.drewN (n := n37); clear S36
        have S37 := Lib.hid h37; clear h37
        go_wp2_with fail
        refine (all_same LZ4.out ZF.out Z8.out (COZ.out.rd0 S37.out (fun e he => by rw [← HMM.out]; simp [he]) (fun e he => by rw [← HMM.out]; simp [he])) (HF.out _ _ S37.out HXM).2).mono ?_
        rintro e _ ⟨rfl, n38, rfl⟩
        have h38 := S37.out.drewN (n := n38); clear S37
        have S38 := Lib.hid h38; clear h38
        generalize (w36.drewN n37).drewN n38 = wz at *
        have y0 := (S38.out.blk eM).cell (i := 0) rfl; have y1 := (S38.out.blk eM).cell (i := 1) rfl; have y2 := (S38.out.blk eM).cell (i := 2) rfl; have y3 := (S38.out.blk eM).cell (i := 3) rfl; have y4 := (S38.out.blk eM).cell (i := 4) rfl
        have x0 := (S38.out.blk eE).cell (i := 0) rfl; have x1 := (S38.out.blk eE).cell (i := 1) rfl; have x2 := (S38.out.blk eE).cell (i := 2) rfl; have x3 := (S38.out.blk eE).cell (i := 3) rfl; have x4 := (S38.out.blk eE).cell (i := 4) rfl
        have HF1 := HF; have HX1 := HX
        clear HF HXM E9 C9 LYD HX HC HM2 eM eE CDY COZ R1 R2 R3 R4 R5 R6 HSL hn4 LY4 LZ4 SE SMK HGR CL
        have hEq := errs_eq wz E1 E2 E3 E4 E3
        go_wp2_with fail
        refine ⟨⟨i + 1, _, X, by omega, by simp, HX1.out, S38.out.drop ?_, .inr ⟨by omega, AF, cF, AO1, cO1, rfl, rfl, rfl, rfl, HF1.out⟩⟩, ?_⟩
        · rw [← HMM.out, ← HK.out]
          exact ((aX_sub nb _ GO bsO Z GD bsD Y a D2 _).trans (List.sublist_append_right (ents bsL Y) _)).trans (List.sublist_append_right G2 _)
        · simp [intOf]; omega
    · obtain rfl : i = 3 := by omega
      go_wp2_with fail
      go_ret
      exact ⟨rfl, S2.out.nil⟩

end Go.Proofs.Ytdbfkjhdnbmpeaa.Sk

namespace Go.Proofs.Ytdbfkjhdnbmpeaa.Sk
set_option linter.unusedSimpArgs false
set_option linter.unusedVariables false
open Go Go.RowKit Go.Proofs.Ytdbfkjhdnbmpeaa Go.Proofs.Ytdbfkjhdnbmpeaa.Mm Go.Proofs.Ytdbfkjhdnbmpeaa.Gf Go.Proofs.Ytdbfkjhdnbmpeaa.Wr Go.Proofs.Ytdbfkjhdnbmpeaa.Nb Go.Proofs.Ytdbfkjhdnbmpeaa.St

theorem alike_walk (cs : Array Value) (x : TCall) (w : World) (h : kCall.ok w.heap.size w cs.toList x) :
    Calls Try.prog 4 #[.agg cs] w fun e w' => e = .returned (.bool true) ∧ Below w.heap.size w w' := by
  obtain ⟨k, c, row, dst, src, rows, srcs, dsts, f, t, A1, A2, A3, A4, A5, A6, c1, c2, c3, c4, c5, c6, ecs, rfl, hc, ⟨g1, g2, g3⟩, ⟨g4, g5, g6⟩, ⟨g7, g8, g9⟩, ⟨g10, g11, g12⟩, ⟨g13, g14, g15⟩, ⟨g16, g17, g18⟩, _⟩ := open_call h
  have ec := arr_of ecs
  subst ec
  exact (alike_calls rfl rfl rfl rfl rfl rfl g1 g13 g16 hc g2 g4 g7 g10 g14 g17 g5 g8 g11 g3 g6 g9 g12 g15 g18).mono fun _ _ ⟨h, hs⟩ => ⟨h, hs.below⟩

end Go.Proofs.Ytdbfkjhdnbmpeaa.Sk
