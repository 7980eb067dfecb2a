/- Layer 9: Spread. -/
import Derived.Test.YtdbfkjhdnbmpeaaKd

namespace Go.Proofs.Ytdbfkjhdnbmpeaa.Sk
set_option linter.unusedSimpArgs false
set_option linter.unusedVariables false
open Go Go.RowKit Go.Proofs.Ytdbfkjhdnbmpeaa Go.Proofs.Ytdbfkjhdnbmpeaa.Mm Go.Proofs.Ytdbfkjhdnbmpeaa.Gf Go.Proofs.Ytdbfkjhdnbmpeaa.Wr Go.Proofs.Ytdbfkjhdnbmpeaa.Nb Go.Proofs.Ytdbfkjhdnbmpeaa.St

theorem There.head {p j : Nat} {S : List Ent} (hS : SetE p j S) : ∃ T x, (⟨p, 79, #[.iface T (.pointer (some x)), .int .i64 (j : Int)]⟩ : Ent) ∈ S := by
  obtain ⟨T, x, F, r, hSe, _⟩ := hS.ker
  exact ⟨T, x, by rw [hSe]; exact mem0⟩
theorem mem_getD {α : Type} {L : List α} {i : Nat} {d : α} (h : i < L.length) : L.getD i d ∈ L := by
  rw [List.getD_eq_getElem?_getD, List.getElem?_eq_getElem h, Option.getD_some]; exact List.getElem_mem _

/-- What Dot asks. -/
def DotOk (row : List Nat) (srcs : List (List Nat)) (n : Nat) : Prop := row.length = srcs.length ∧ ∀ l ∈ srcs, l.length = n
instance (row : List Nat) (srcs : List (List Nat)) (n : Nat) : Decidable (DotOk row srcs n) := by unfold DotOk; infer_instance

set_option maxRecDepth 100000 in
theorem dot_nil (v1 v2 v3 : Value) (w : World) : Calls Try.prog 18 #[.pointer none, v1, v2, v3] w fun e w' => e = .returned (.int .i64 1) ∧ w = w' := by
  go_enter Try.func18, Try.ntmps18
  go_wp2
  go_ret
  exact ⟨rfl, rfl⟩

set_option maxRecDepth 100000 in
set_option maxHeartbeats 2000000 in
theorem dot_bad {p j : Nat} {S : List Ent} {Ar As Ad : Option Addr} {k kc m mc n cd : Nat} {row : List Nat} {srcs : List (List Nat)} {w : World} (hS : SetE p j S) (hb : There w S) (hk : row.length = k) (hm : srcs.length = m) (hf : Fit srcs) (hs : RdL w [] As srcs) (hn : n ≤ 140737488351232) (hbad : ¬ DotOk row srcs n) :
    Calls Try.prog 18 #[.pointer (some ⟨p, 0, none⟩), .slice Ar k kc, .slice As m mc, .slice Ad n cd] w fun e w' => e = .returned (.int .i64 6) ∧ w = w' := by
  obtain ⟨T, x, hp⟩ := There.head hS
  have m0 := (hb _ hp).cell (i := 0) rfl
  have HS := Lib.hid hs; have HF := Lib.hid hf; have HK := Lib.hid hk; have HM := Lib.hid hm; have HBAD := Lib.hid hbad
  have b2 : m ≤ 140737488351232 := by have := hf.1; omega
  clear hS hb hs hf hk hm hbad hp
  by_cases hkm : k = m
  · subst hkm
    go_enter Try.func18, Try.ntmps18
    go_wp2_with fail
    clear m0
    go_loop [28] (fun vi => ∃ i : Nat, i ≤ k ∧ vi = .int .i64 i ∧ ∀ j, j < i → (srcs.getD j []).length = n) (fun vi => k - (intOf vi).toNat)
    case atStart => exact ⟨0, by omega, rfl, fun j hj => by omega⟩
    case round =>
      obtain ⟨i, hi, rfl, hall⟩ := hrel
      have HALL := Lib.hid hall; clear hall
      by_cases hlt : i < k
      · obtain ⟨b4, o4, B4, d4, e4, x4, g4, r4, _⟩ := HS.out.at (i := i) (by rw [HM.out]; exact hlt)
        subst e4
        obtain ⟨q, hq⟩ : ∃ q, Hid ((srcs.getD i []).length = q) := ⟨_, Lib.hid rfl⟩
        rw [hq.out] at x4
        clear r4 g4
        have i1 : (i : Int) < (k : Int) := by omega
        by_cases hqn : q = n
        · subst hqn
          go_wp2_with fail
          clear x4
          go_round
          case rel => exact ⟨i + 1, by omega, by go_num, fun j hj => by
            rcases Nat.lt_or_ge j i with h | h
            · exact HALL.out j h
            · obtain rfl : j = i := by omega
              exact hq.out⟩
          case measure => simp [intOf]; omega
        · have q1 : (q == n) = false := by simpa using hqn
          have q2 : (((q : Nat) : Int) != ((n : Nat) : Int)) = true := by rw [bne_iff_ne]; omega
          have q3 : (q != n) = true := by rw [bne_iff_ne]; exact hqn
          clear hqn
          go_wp2_with fail
          go_ret
          exact ⟨rfl, rfl⟩
      · obtain rfl : i = k := by omega
        exfalso
        refine HBAD.out ⟨by rw [HK.out, HM.out], fun r hr => ?_⟩
        obtain ⟨u, hu, rfl⟩ := List.getElem_of_mem hr
        have := HALL.out u (by rw [← HM.out]; exact hu)
        rw [← this]; simp [hu]
  · have q1 : (k == m) = false := by simpa using hkm
    have q2 : (((k : Nat) : Int) != ((m : Nat) : Int)) = true := by rw [bne_iff_ne]; omega
    have q3 : (k != m) = true := by rw [bne_iff_ne]; exact hkm
    clear hkm
    go_enter Try.func18, Try.ntmps18
    go_wp2_with fail
    go_ret
    exact ⟨rfl, rfl⟩

set_option maxRecDepth 100000 in
set_option maxHeartbeats 2000000 in
theorem dot_ok {p j : Nat} {S : List Ent} {Ar As : Option Addr} {k kc m mc bd od n cd : Nat} {row : List Nat} {srcs : List (List Nat)} {D : List Nat} {w : World} (hS : SetE p j S) (hb : There w S) (hne : ∀ e ∈ S, e.b ≠ bd) (hd : Bytes w bd D) (ho : od + n ≤ D.length) (hD8 : B8 D) (hcd : n ≤ cd)
    (hk : row.length = k) (hr : Rd w Ar row) (hro : Off [bd] Ar) (hr8 : B8 row) (hm : srcs.length = m) (hf : Fit srcs) (hs : RdL w [bd] As srcs) (hs8 : B8L srcs) (hn : n ≤ 140737488351232) (hok : DotOk row srcs n) :
    Calls Try.prog 18 #[.pointer (some ⟨p, 0, none⟩), .slice Ar k kc, .slice As m mc, .slice (some ⟨bd, od, none⟩) n cd] w fun e w' => e = .returned (.int .i64 0) ∧ St w w' [bt bd (Wr.wr D od (sumL row srcs 0 n))] [] := by
  obtain ⟨T, x, hp⟩ := There.head hS
  obtain rfl : k = m := by rw [← hk, ← hm]; exact hok.1
  have b2 : k ≤ 140737488351232 := by have := hf.1; omega
  have HC := Lib.hid (sum_at (kc := kc) (mc := mc) (f := 0) hS hb hne hd ho hD8 hcd hk hr hro hr8 hm (Nat.le_refl _) hs (fun l hl => ⟨hs8 l hl, by rw [hok.2 l hl]; omega, hf.2 l hl⟩) hn (by omega) b2)
  have m0 := (hb _ hp).cell (i := 0) rfl
  have HS := Lib.hid hs; have HM := Lib.hid hm; have HOK := Lib.hid hok; have S0 := Lib.hid (St.start1 hd)
  clear hS hb hs hf hk hm hok hp hr hro hr8 hs8 hd ho hD8 hne
  go_enter Try.func18, Try.ntmps18
  go_wp2_with fail
  clear m0
  go_loop [28] (fun vi => ∃ i : Nat, i ≤ k ∧ vi = .int .i64 i) (fun vi => k - (intOf vi).toNat)
  case atStart => exact ⟨0, by omega, rfl⟩
  case round =>
    obtain ⟨i, hi, rfl⟩ := hrel
    by_cases hlt : i < k
    · obtain ⟨b4, o4, B4, d4, e4, x4, g4, r4, _⟩ := HS.out.at (i := i) (by rw [HM.out]; exact hlt)
      subst e4
      rw [HOK.out.2 _ (mem_getD (by rw [HM.out]; exact hlt))] at x4
      clear r4 g4
      have i1 : (i : Int) < (k : Int) := by omega
      go_wp2_with fail
      clear x4
      go_round
      case rel => exact ⟨i + 1, by omega, by go_num⟩
      case measure => simp [intOf]; omega
    · obtain rfl : i = k := by omega
      go_wp2_with fail
      refine HC.out.mono ?_
      rintro e w' ⟨rfl, hh⟩
      have HH := Lib.hid hh; clear hh
      go_wp2_with fail
      go_ret
      exact ⟨rfl, HH.out⟩

/-- What fits promises. -/
theorem fits_zero {rows srcs dsts : List (List Nat)} {f t : Int} (h : fitsE rows srcs dsts f t = 0) : LenOk rows srcs dsts ∧ 0 ≤ f ∧ f ≤ t ∧ t ≤ (lenM (srcs ++ dsts) : Int) := by
  unfold fitsE at h
  split at h
  · rename_i h1
    unfold rngE at h
    split at h
    · rename_i h2; exact ⟨h1, h2⟩
    · exact absurd h (by decide)
  · exact absurd h (by decide)

/-- The lists when the first i rows are done. -/
def appR (rows srcs L : List (List Nat)) (f k : Nat) : Nat → List (List Nat)
  | 0 => L
  | i + 1 => (appR rows srcs L f k i).set i (Wr.wr (L.getD i []) f (sumL (rows.getD i []) srcs f k))
def appL (rows srcs L : List (List Nat)) (f k : Nat) : List (List Nat) := appR rows srcs L f k L.length
theorem appR_length (rows srcs L : List (List Nat)) (f k : Nat) : ∀ i, (appR rows srcs L f k i).length = L.length
  | 0 => rfl
  | i + 1 => by rw [appR, List.length_set, appR_length rows srcs L f k i]
theorem appR_get (rows srcs L : List (List Nat)) (f k : Nat) : ∀ (i j : Nat), (appR rows srcs L f k i).getD j [] = if j < i ∧ j < L.length then Wr.wr (L.getD j []) f (sumL (rows.getD j []) srcs f k) else L.getD j []
  | 0, j => by rw [if_neg (by omega)]; rfl
  | i + 1, j => by
    rw [appR, List.getD_eq_getElem?_getD, List.getElem?_set]
    by_cases h : i = j
    · subst h
      rw [if_pos rfl, appR_length]
      by_cases h2 : i < L.length
      · rw [if_pos h2, if_pos (by omega)]; rfl
      · rw [if_neg h2, if_neg (by omega)]; simp [h2]
    · rw [if_neg h, ← List.getD_eq_getElem?_getD, appR_get rows srcs L f k i j]
      by_cases h2 : j < i ∧ j < L.length
      · rw [if_pos h2, if_pos (by omega)]
      · rw [if_neg h2, if_neg (by omega)]
theorem appL_get {rows srcs L : List (List Nat)} {f k j : Nat} (h : j < L.length) : (appL rows srcs L f k).getD j [] = Wr.wr (L.getD j []) f (sumL (rows.getD j []) srcs f k) := by
  unfold appL; rw [appR_get, if_pos ⟨h, h⟩]
theorem appL_length (rows srcs L : List (List Nat)) (f k : Nat) : (appL rows srcs L f k).length = L.length := appR_length _ _ _ _ _ _
theorem ents_b' {bs : List Nat} {L : List (List Nat)} (h : bs.length = L.length) : ∀ e ∈ ents bs L, e.b ∈ bs := fun e he => by
  have : e.b ∈ (ents bs L).map (·.b) := List.mem_map.2 ⟨e, he, rfl⟩
  rw [ents_b h] at this; exact this
theorem wr_nil (D : List Nat) (o : Nat) : Wr.wr D o [] = D := rfl
theorem wr_cut {D l : List Nat} {od f n : Nat} (hl : l.length = n) (h : 0 < n → od = f) : Wr.wr D od l = Wr.wr D f l := by
  rcases Nat.eq_zero_or_pos n with h0 | h0
  · have : l = [] := List.eq_nil_of_length_eq_zero (by omega)
    subst this; rfl
  · rw [h h0]

set_option maxRecDepth 100000 in
theorem apply_nil (v1 v2 v3 : Value) (f t : Int) (w : World) : Calls Try.prog 14 #[.pointer none, v1, v2, v3, .agg #[.int .i64 f, .int .i64 t]] w fun e w' => e = .returned (.int .i64 1) ∧ St w w' [] [] := by
  have S0 := Lib.hid (St.start w)
  go_enter Try.func14, Try.ntmps14
  go_wp2_with ((with_reducible refine at_slot (N := 9) rfl ?_); refine box_law rfl _ _ #[.int .i64 f, .int .i64 t] rfl rfl S0.out ?_; intro sb w1 h1; have y0 := (St.blk h1 (b := sb) (t := 32) (c := #[.int .i64 f, .int .i64 t]) mem0).cell (i := 0) rfl; have y1 := (St.blk h1 (b := sb) (t := 32) (c := #[.int .i64 f, .int .i64 t]) mem0).cell (i := 1) rfl; (try simp only [World.size_alloc, List.nil_append, List.cons_append, List.append_eq] at h1); have S1 := Lib.hid h1; clear h1 S0)
  refine (fits_nil v1 v2 v3 f t _).mono ?_
  rintro e w2 ⟨rfl, hh⟩
  have h2 := S1.out.call hh; clear hh S1
  try simp only [List.nil_append, List.cons_append, List.append_eq, Int.toNat_natCast] at h2
  have S2 := Lib.hid h2; clear h2
  go_wp2_with fail
  go_ret
  exact ⟨rfl, S2.out.nil⟩

set_option maxRecDepth 100000 in
set_option maxHeartbeats 2000000 in
theorem apply_bad {p j : Nat} {S : List Ent} {A1 A2 A3 : Option Addr} {n1 n2 n3 c1 c2 c3 : Nat} {rows srcs dsts : List (List Nat)} {f t : Int} {w : World} (hS : SetE p j S) (hb : There w S) (h1 : rows.length = n1) (h2 : srcs.length = n2) (h3 : dsts.length = n3) (hf1 : Fit rows) (hf2 : Fit srcs) (hf3 : Fit dsts)
    (hr : RdL w [] A1 rows) (hs : RdL w [] A2 srcs) (hd : RdL w [] A3 dsts) (hE : fitsE rows srcs dsts f t ≠ 0) :
    Calls Try.prog 14 #[.pointer (some ⟨p, 0, none⟩), .slice A1 n1 c1, .slice A2 n2 c2, .slice A3 n3 c3, .agg #[.int .i64 f, .int .i64 t]] w fun e w' => e = .returned (.int .i64 (fitsE rows srcs dsts f t)) ∧ St w w' [] [] := by
  have HC := Lib.hid (fun (w2 : World) (N : List Ent) (h : St w w2 [] N) => fits_st (c1 := c1) (c2 := c2) (c3 := c3) (f := f) (t := t) hS (hb.keep h (by simp)) h1 h2 h3 hf1 hf2 hf3 (h.extL hr) (h.extL hs) (h.extL hd))
  obtain ⟨E, HE⟩ : ∃ E, Hid (fitsE rows srcs dsts f t = E) := ⟨_, Lib.hid rfl⟩
  rw [HE.out] at HC hE ⊢
  have q1 : (E == 0) = false := by simpa using hE
  have q2 : (E != 0) = true := by rw [bne_iff_ne]; exact hE
  have S0 := Lib.hid (St.start w)
  clear hS hb h1 h2 h3 hf1 hf2 hf3 hr hs hd hE
  go_enter Try.func14, Try.ntmps14
  go_wp2_with ((with_reducible refine at_slot (N := 9) rfl ?_); refine box_law rfl _ _ #[.int .i64 f, .int .i64 t] rfl rfl S0.out ?_; intro sb w1 h1; have y0 := (St.blk h1 (b := sb) (t := 32) (c := #[.int .i64 f, .int .i64 t]) mem0).cell (i := 0) rfl; have y1 := (St.blk h1 (b := sb) (t := 32) (c := #[.int .i64 f, .int .i64 t]) mem0).cell (i := 1) rfl; (try simp only [World.size_alloc, List.nil_append, List.cons_append, List.append_eq] at h1); have S1 := Lib.hid h1; clear h1 S0)
  refine (HC.out _ _ S1.out).mono ?_
  rintro e w2 ⟨rfl, hh⟩
  have h2 := S1.out.call hh; clear hh S1
  try simp only [List.nil_append, List.cons_append, List.append_eq, Int.toNat_natCast] at h2
  have S2 := Lib.hid h2; clear h2
  go_wp2_with fail
  go_ret
  exact ⟨rfl, S2.out.nil⟩

end Go.Proofs.Ytdbfkjhdnbmpeaa.Sk

namespace Go.Proofs.Ytdbfkjhdnbmpeaa.Sk
set_option linter.unusedSimpArgs false
set_option linter.unusedVariables false
open Go Go.RowKit Go.Proofs.Ytdbfkjhdnbmpeaa Go.Proofs.Ytdbfkjhdnbmpeaa.Mm Go.Proofs.Ytdbfkjhdnbmpeaa.Gf Go.Proofs.Ytdbfkjhdnbmpeaa.Wr Go.Proofs.Ytdbfkjhdnbmpeaa.Nb Go.Proofs.Ytdbfkjhdnbmpeaa.St

theorem same_len {X : List (List Nat)} (h : Same X) {l : List Nat} (hl : l ∈ X) : l.length = lenM X := h l hl
theorem appR_len {rows srcs L : List (List Nat)} {f k : Nat} (i : Nat) : (appR rows srcs L f k i).map (·.length) = L.map (·.length) := by
  apply List.ext_getElem?
  intro j
  have e := appR_length rows srcs L f k i
  rw [List.getElem?_map, List.getElem?_map]
  by_cases hj : j < L.length
  · have h1 : (appR rows srcs L f k i)[j]? = some ((appR rows srcs L f k i).getD j []) := by simp [show j < (appR rows srcs L f k i).length by omega]
    have h2 : L[j]? = some (L.getD j []) := by simp [hj]
    rw [h1, h2, appR_get]
    simp only [Option.map_some]
    split
    · rw [wr_length]
    · rfl
  · rw [List.getElem?_eq_none (by omega), List.getElem?_eq_none (by omega)]

set_option maxRecDepth 100000 in
set_option maxHeartbeats 4000000 in
theorem apply_ok {p j : Nat} {S : List Ent} {A1 A2 A3 : Option Addr} {n1 n2 n3 c1 c2 c3 : Nat} {rows srcs L : List (List Nat)} {bs : List Nat} {f t : Nat} {w : World} (hS : SetE p j S) (hb : There w S) (hne : ∀ e ∈ S, e.b ∉ bs) (h1 : rows.length = n1) (h2 : srcs.length = n2) (h3 : L.length = n3) (hf1 : Fit rows) (hf2 : Fit srcs) (hf3 : Fit L)
    (h81 : B8L rows) (h82 : B8L srcs) (h83 : B8L L) (hbs : bs.length = L.length) (hX : St w w (ents bs L) []) (hr : RdL w bs A1 rows) (hs : RdL w bs A2 srcs) (hd : RdV es w A3 (sds bs L)) (hA3 : Off bs A3) (hE : fitsE rows srcs L (f : Int) (t : Int) = 0) :
    Calls Try.prog 14 #[.pointer (some ⟨p, 0, none⟩), .slice A1 n1 c1, .slice A2 n2 c2, .slice A3 n3 c3, .agg #[.int .i64 (f : Int), .int .i64 (t : Int)]] w fun e w' => e = .returned (.int .i64 0) ∧ St w w' (ents bs (appL rows srcs L f (t - f))) [] := by
  obtain ⟨⟨g1, g2, g3⟩, g4, g5, g6⟩ := fits_zero hE
  obtain rfl : n1 = n3 := by omega
  obtain ⟨k, hk⟩ : ∃ k, t = f + k := ⟨t - f, by omega⟩
  subst hk
  rw [show f + k - f = k by omega]
  rw [Int.natCast_add] at hE
  have HC := Lib.hid (fun (w2 : World) (N : List Ent) (h : St w w2 (ents bs L) N) => fits_st (c1 := c1) (c2 := c2) (c3 := c3) (f := (f : Int)) (t := (f : Int) + (k : Int)) hS (hb.keep h (fun e he x hx hxe => hne e he (by rw [← hxe]; exact ents_b' hbs x hx))) h1 h2 h3 hf1 hf2 hf3 ((h.rdLX hr (ents_b' hbs)).sub (by simp)) ((h.rdLX hs (ents_b' hbs)).sub (by simp)) (rdL_of hbs (h.rdVX hd hA3 (ents_b' hbs)) (Off.nil _) (fun e he => (h.wrt e he).2) (fun b _ => by simp)))
  rw [hE] at HC
  have HLM : Hid (∀ l ∈ srcs ++ L, f + k ≤ l.length) := Lib.hid (fun l hl => by rw [same_len g3 hl]; omega)
  have hfk : n1 ≠ 0 → f + k ≤ 140737488351232 := fun h => by
    have := HLM.out (L.getD 0 []) (List.mem_append_right _ (mem_getD (by omega)))
    have := hf3.get 0
    omega
  have HFK := Lib.hid hfk
  have hb1 : n1 ≤ 140737488351232 := by have := hf1.1; omega
  have SE := Lib.hid hS; have HB := Lib.hid hb; have HNE := Lib.hid hne; have H1 := Lib.hid h1; have H2 := Lib.hid h2; have H3 := Lib.hid h3; have F1 := Lib.hid hf1; have F2 := Lib.hid hf2; have F3 := Lib.hid hf3
  have H81 := Lib.hid h81; have H82 := Lib.hid h82; have H83 := Lib.hid h83; have HBS := Lib.hid hbs; have HR := Lib.hid hr; have HS := Lib.hid hs; have HD := Lib.hid hd; have HA3 := Lib.hid hA3
  have G2 := Lib.hid g2
  have S0 : Hid (St w w (ents bs (appR rows srcs L f k 0)) []) := Lib.hid hX
  have HEND : Hid (appR rows srcs L f k n1 = appL rows srcs L f k) := Lib.hid (by unfold appL; rw [h3])
  have HAL := Lib.hid (appR_length rows srcs L f k)
  clear hS hb hne h1 h2 h3 hf1 hf2 hf3 h81 h82 h83 hbs hX hr hs hd hA3 hE g1 g2 g3 g4 g5 g6 hfk
  go_enter Try.func14, Try.ntmps14
  go_wp2_with ((with_reducible refine at_slot (N := 9) rfl ?_); refine box_law rfl _ _ #[.int .i64 (f : Int), .int .i64 ((f + k : Nat) : Int)] rfl rfl S0.out ?_; intro sb w1 h1; have y0 := (St.blk h1 (b := sb) (t := 32) (c := #[.int .i64 (f : Int), .int .i64 ((f + k : Nat) : Int)]) mem0).cell (i := 0) rfl; have y1 := (St.blk h1 (b := sb) (t := 32) (c := #[.int .i64 (f : Int), .int .i64 ((f + k : Nat) : Int)]) mem0).cell (i := 1) rfl; (try simp only [World.size_alloc, List.nil_append, List.cons_append, List.append_eq] at h1); have S1 := Lib.hid h1; clear h1 S0)
  refine (HC.out _ _ S1.out).mono ?_
  rintro e w2 ⟨rfl, hh⟩
  have h2 := S1.out.call hh; clear hh S1
  try simp only [List.nil_append, List.cons_append, List.append_eq, Int.toNat_natCast] at h2
  have S2 := Lib.hid h2; clear h2
  have SQ := S2; clear S2
  go_wp2_with fail
  clear HC y0 y1
  go_loopw [25] (fun vi wq => ∃ i : Nat, i ≤ n1 ∧ vi = .int .i64 i ∧ St w wq (ents bs (appR rows srcs L f k i)) [⟨sb, 32, #[.int .i64 (f : Int), .int .i64 ((f + k : Nat) : Int)]⟩]) (fun vi _ => n1 - (intOf vi).toNat)
  case atStart => exact ⟨0, by omega, rfl, SQ.out⟩
  case round =>
    clear SQ
    obtain ⟨i, hi, rfl, hs⟩ := hrel
    have S3 := Lib.hid hs; clear hs
    by_cases hlt : i < n1
    · have y0 := (S3.out.blk (b := sb) (t := 32) (c := #[.int .i64 (f : Int), .int .i64 ((f + k : Nat) : Int)]) mem0).cell (i := 0) rfl
      have y1 := (S3.out.blk (b := sb) (t := 32) (c := #[.int .i64 (f : Int), .int .i64 ((f + k : Nat) : Int)]) mem0).cell (i := 1) rfl
      have HBE := Lib.hid (ents_b' (bs := bs) (L := appR rows srcs L f k i) (by rw [HBS.out, HAL.out]))
      obtain ⟨b4, o4, B4, d4, e4, x4, g4, r4, off4⟩ := (S3.out.rdLX HR.out HBE.out).at (i := i) (by rw [H1.out]; exact hlt)
      subst e4
      rw [G2.out _ (mem_getD (by rw [H1.out]; exact hlt)), H2.out] at x4
      have R4 := Lib.hid r4; have O4 := Lib.hid off4
      have H84 := Lib.hid (H81.out.get i)
      have HL4 : Hid ((rows.getD i []).length = n2) := Lib.hid (by rw [G2.out _ (mem_getD (by rw [H1.out]; exact hlt)), H2.out])
      clear r4 off4 g4
      obtain ⟨b5, o5, e5, k5⟩ := (S3.out.rdVX HD.out HA3.out HBE.out) (by rw [sds_length HBS.out, H3.out]; omega)
      have x5 := k5 i _ (sds_get HBS.out (by rw [H3.out]; exact hlt))
      subst e5
      clear k5
      simp only [es] at x5
      obtain ⟨ln, hln⟩ : ∃ ln, Hid ((L.getD i []).length = ln) := ⟨_, Lib.hid rfl⟩
      rw [hln.out] at x5
      have hfit : f + k ≤ ln := by rw [← hln.out]; exact HLM.out _ (List.mem_append_right _ (mem_getD (by rw [H3.out]; exact hlt)))
      have hl47 : ln ≤ 140737488351232 := by rw [← hln.out]; exact F3.out.get i
      have HBB : Hid (bs.getD i 0 ∈ bs) := Lib.hid (mem_getD (by rw [HBS.out, H3.out]; exact hlt))
      obtain ⟨P, Q, hP, hQ⟩ := ents_split (bs := bs) (L := appR rows srcs L f k i) (i := i) (by rw [HBS.out, HAL.out]) (by rw [HAL.out, H3.out]; exact hlt)
      have HP := Lib.hid hP; have HQ := Lib.hid hQ; clear hP hQ
      have HGI : Hid ((appR rows srcs L f k i).getD i [] = L.getD i []) := Lib.hid (by rw [appR_get, if_neg (by omega)])
      rw [HGI.out] at HP
      have HST : Hid ((appR rows srcs L f k i).set i (Wr.wr (L.getD i []) f (sumL (rows.getD i []) srcs f k)) = appR rows srcs L f k (i + 1)) := Lib.hid rfl
      have HQ2 := Lib.hid (HQ.out (Wr.wr (L.getD i []) f (sumL (rows.getD i []) srcs f k)))
      rw [HST.out] at HQ2
      have H8L := Lib.hid (H83.out.get i)
      have S4 : Hid (St w wr (P ++ bt (bs.getD i 0) (L.getD i []) :: Q) [⟨sb, 32, #[.int .i64 (f : Int), .int .i64 ((f + k : Nat) : Int)]⟩]) := Lib.hid (by rw [← HP.out]; exact S3.out)
      clear HQ
      generalize bs.getD i 0 = bd at *
      generalize L.getD i [] = D at *
      generalize rows.getD i [] = row at *
      obtain ⟨od, hod, hod1, hod2⟩ := cutA_some (b := bd) (o := 0) ln f
      have hodw := wr_cut (D := D) (l := sumL row srcs f k) (od := od) (f := f) (n := k) (sumL_length _ _ _ _) (fun h => by rw [hod2 (by omega)]; omega)
      have HODW := Lib.hid hodw
      have HOD := Lib.hid hod
      have HNEB : Hid (∀ e ∈ S, e.b ≠ bd) := Lib.hid (fun e he hb => HNE.out e he (by rw [hb]; exact HBB.out))
      have HCS := Lib.hid (fun (m : Nat) => sum_at (kc := d4) (mc := c2) (f := f) (n := k) (cd := ln - f) (od := od) (bd := bd) (D := D) (row := row) (srcs := srcs) (w := wr.drewN m) (k := n2) (m := n2) SE.out (HB.out.keep (S3.out.drewN (n := m)) (fun e he x hx hxe => HNE.out e he (by rw [← hxe]; exact HBE.out x hx))) HNEB.out ((S4.out.drewN (n := m)).blkW (by simp)) (by rw [hln.out]; omega) H8L.out (by omega) HL4.out R4.out (O4.out.sub (fun x hx => by rw [List.mem_singleton] at hx; rw [hx]; exact HBB.out)) H84.out H2.out (Nat.le_refl _) (((S3.out.drewN (n := m)).rdLX HS.out HBE.out).sub (fun x hx => by rw [List.mem_singleton] at hx; rw [hx]; exact HBB.out)) (fun l hl => ⟨H82.out l hl, HLM.out l (List.mem_append_left _ hl), F2.out.2 l hl⟩) (by have := HFK.out (by omega); omega) (HFK.out (by omega)) (by have := F2.out.1; have := H2.out; omega))
      clear hodw hod hod1 hod2
      have i1 : (i : Int) < (n1 : Int) := by omega
      have f0 : (0 : Int) ≤ (f : Int) := by omega
      have k0 : (0 : Int) ≤ (k : Int) := by omega
      go_wp2_with fail
      refine Qt.quiet_tail 14 (by kernel_rfl) (by kernel_rfl) ?_
      simp only [List.take_succ_cons, List.take_zero, List.drop_succ_cons, List.drop_zero]
      iterate 13 (first | go_big_quiet_step (fail) | quiet_step (fail))
      refine quiet_slice rfl 39 5 Try.underlying39 (by kernel_rfl) _ _ _ rfl (some ⟨bd, 0, none⟩) ln ln f k rfl _ _ rfl rfl rfl (by simp) hfit ?_
      refine wpQuiet_nil ?_
      rintro _ ⟨nq, rfl⟩
      rw [HOD.out]
      clear x4 x5 y0 y1
      go_wp2_with fail
      refine (HCS.out nq).mono ?_
      rintro e w3 ⟨rfl, hh⟩
      have h5 := (S4.out.drewN (n := nq)).callW hh
      rw [HODW.out, ← HQ2.out, List.nil_append] at h5
      have S5 := Lib.hid h5
      clear hh h5 S4 S3 HCS
      go_wp2_with fail
      refine ⟨⟨i + 1, by omega, by simp, S5.out⟩, ?_⟩
      simp [intOf]; omega
    · obtain rfl : i = n1 := by omega
      rw [HEND.out] at S3
      go_wp2_with fail
      go_ret
      exact ⟨rfl, S3.out.nil⟩

end Go.Proofs.Ytdbfkjhdnbmpeaa.Sk

namespace Go.Proofs.Ytdbfkjhdnbmpeaa.Sk
set_option linter.unusedSimpArgs false
set_option linter.unusedVariables false
open Go Go.RowKit Go.Proofs.Ytdbfkjhdnbmpeaa Go.Proofs.Ytdbfkjhdnbmpeaa.Mm Go.Proofs.Ytdbfkjhdnbmpeaa.Gf Go.Proofs.Ytdbfkjhdnbmpeaa.Wr Go.Proofs.Ytdbfkjhdnbmpeaa.Nb Go.Proofs.Ytdbfkjhdnbmpeaa.St

/-- Is each list, within the span, the sum? -/
def Agr (rows srcs L : List (List Nat)) (f k : Nat) : Prop := ∀ r, r < L.length → ((L.getD r []).drop f).take k = sumL (rows.getD r []) srcs f k
instance (rows srcs L : List (List Nat)) (f k : Nat) : Decidable (Agr rows srcs L f k) := by unfold Agr; infer_instance

set_option maxRecDepth 100000 in
theorem agrees_nil (v1 v2 v3 : Value) (f t : Int) (w : World) : Calls Try.prog 15 #[.pointer none, v1, v2, v3, .agg #[.int .i64 f, .int .i64 t]] w fun e w' => e = .returned (.tuple #[.bool false, .int .i64 1]) ∧ St w w' [] [] := by
  have S0 := Lib.hid (St.start w)
  go_enter Try.func15, Try.ntmps15
  go_wp2_with ((with_reducible refine at_slot (N := 9) rfl ?_); refine box_law rfl _ _ #[.int .i64 f, .int .i64 t] rfl rfl S0.out ?_; intro sb w1 h1; have y0 := (St.blk h1 (b := sb) (t := 32) (c := #[.int .i64 f, .int .i64 t]) mem0).cell (i := 0) rfl; have y1 := (St.blk h1 (b := sb) (t := 32) (c := #[.int .i64 f, .int .i64 t]) mem0).cell (i := 1) rfl; (try simp only [World.size_alloc, List.nil_append, List.cons_append, List.append_eq] at h1); have S1 := Lib.hid h1; clear h1 S0)
  refine (fits_nil v1 v2 v3 f t _).mono ?_
  rintro e w2 ⟨rfl, hh⟩
  have h2 := S1.out.call hh; clear hh S1
  try simp only [List.nil_append, List.cons_append, List.append_eq, Int.toNat_natCast] at h2
  have S2 := Lib.hid h2; clear h2
  go_wp2_with fail
  go_ret2
  exact ⟨rfl, S2.out.nil⟩

set_option maxRecDepth 100000 in
set_option maxHeartbeats 2000000 in
theorem agrees_bad {p j : Nat} {S : List Ent} {A1 A2 A3 : Option Addr} {n1 n2 n3 c1 c2 c3 : Nat} {rows srcs dsts : List (List Nat)} {f t : Int} {w : World} (hS : SetE p j S) (hb : There w S) (h1 : rows.length = n1) (h2 : srcs.length = n2) (h3 : dsts.length = n3) (hf1 : Fit rows) (hf2 : Fit srcs) (hf3 : Fit dsts)
    (hr : RdL w [] A1 rows) (hs : RdL w [] A2 srcs) (hd : RdL w [] A3 dsts) (hE : fitsE rows srcs dsts f t ≠ 0) :
    Calls Try.prog 15 #[.pointer (some ⟨p, 0, none⟩), .slice A1 n1 c1, .slice A2 n2 c2, .slice A3 n3 c3, .agg #[.int .i64 f, .int .i64 t]] w fun e w' => e = .returned (.tuple #[.bool false, .int .i64 (fitsE rows srcs dsts f t)]) ∧ St w w' [] [] := by
  have HC := Lib.hid (fun (w2 : World) (N : List Ent) (h : St w w2 [] N) => fits_st (c1 := c1) (c2 := c2) (c3 := c3) (f := f) (t := t) hS (hb.keep h (by simp)) h1 h2 h3 hf1 hf2 hf3 (h.extL hr) (h.extL hs) (h.extL hd))
  obtain ⟨E, HE⟩ : ∃ E, Hid (fitsE rows srcs dsts f t = E) := ⟨_, Lib.hid rfl⟩
  rw [HE.out] at HC hE ⊢
  have q1 : (E == 0) = false := by simpa using hE
  have q2 : (E != 0) = true := by rw [bne_iff_ne]; exact hE
  have S0 := Lib.hid (St.start w)
  clear hS hb h1 h2 h3 hf1 hf2 hf3 hr hs hd hE
  go_enter Try.func15, Try.ntmps15
  go_wp2_with ((with_reducible refine at_slot (N := 9) rfl ?_); refine box_law rfl _ _ #[.int .i64 f, .int .i64 t] rfl rfl S0.out ?_; intro sb w1 h1; have y0 := (St.blk h1 (b := sb) (t := 32) (c := #[.int .i64 f, .int .i64 t]) mem0).cell (i := 0) rfl; have y1 := (St.blk h1 (b := sb) (t := 32) (c := #[.int .i64 f, .int .i64 t]) mem0).cell (i := 1) rfl; (try simp only [World.size_alloc, List.nil_append, List.cons_append, List.append_eq] at h1); have S1 := Lib.hid h1; clear h1 S0)
  refine (HC.out _ _ S1.out).mono ?_
  rintro e w2 ⟨rfl, hh⟩
  have h2 := S1.out.call hh; clear hh S1
  try simp only [List.nil_append, List.cons_append, List.append_eq, Int.toNat_natCast] at h2
  have S2 := Lib.hid h2; clear h2
  go_wp2_with fail
  go_ret2
  exact ⟨rfl, S2.out.nil⟩

set_option maxRecDepth 100000 in
set_option maxHeartbeats 4000000 in
theorem agrees_ok {p j : Nat} {S : List Ent} {A1 A2 A3 : Option Addr} {n1 n2 n3 c1 c2 c3 : Nat} {rows srcs L : List (List Nat)} {f t : Nat} {w : World} (hS : SetE p j S) (hb : There w S) (h1 : rows.length = n1) (h2 : srcs.length = n2) (h3 : L.length = n3) (hf1 : Fit rows) (hf2 : Fit srcs) (hf3 : Fit L)
    (h81 : B8L rows) (h82 : B8L srcs) (h83 : B8L L) (hr : ∀ x, w.heap.size ≤ x → RdL w [x] A1 rows) (hs : ∀ x, w.heap.size ≤ x → RdL w [x] A2 srcs) (hd : RdL w [] A3 L) (hE : fitsE rows srcs L (f : Int) (t : Int) = 0) :
    Calls Try.prog 15 #[.pointer (some ⟨p, 0, none⟩), .slice A1 n1 c1, .slice A2 n2 c2, .slice A3 n3 c3, .agg #[.int .i64 (f : Int), .int .i64 (t : Int)]] w fun e w' => e = .returned (.tuple #[.bool (decide (Agr rows srcs L f (t - f))), .int .i64 0]) ∧ St w w' [] [] := by
  obtain ⟨⟨g1, g2, g3⟩, g4, g5, g6⟩ := fits_zero hE
  obtain rfl : n1 = n3 := by omega
  obtain ⟨k, hk⟩ : ∃ k, t = f + k := ⟨t - f, by omega⟩
  subst hk
  rw [show f + k - f = k by omega]
  rw [Int.natCast_add] at hE
  have HC := Lib.hid (fun (w2 : World) (N : List Ent) (h : St w w2 [] N) => fits_st (c1 := c1) (c2 := c2) (c3 := c3) (f := (f : Int)) (t := (f : Int) + (k : Int)) hS (hb.keep h (by simp)) h1 h2 h3 hf1 hf2 hf3 (h.extL ((hr _ (Nat.le_refl _)).sub (by simp))) (h.extL ((hs _ (Nat.le_refl _)).sub (by simp))) (h.extL hd))
  rw [hE] at HC
  have HLM : Hid (∀ l ∈ srcs ++ L, f + k ≤ l.length) := Lib.hid (fun l hl => by rw [same_len g3 hl]; omega)
  have hfk : f + k ≤ 140737488351232 := by
    by_cases h0 : srcs ++ L = []
    · rw [h0] at g6; simp [lenM] at g6; omega
    · have hl : (srcs ++ L).getD 0 [] ∈ srcs ++ L := mem_getD (by cases h : srcs ++ L with | nil => exact (h0 h).elim | cons a b => simp)
      have hle : lenM (srcs ++ L) ≤ 140737488351232 := by
        unfold lenM
        rcases List.mem_append.1 hl with h | h
        · exact hf2.2 _ h
        · exact hf3.2 _ h
      omega
  have hb1 : n1 ≤ 140737488351232 := by have := hf1.1; omega
  have SE := Lib.hid hS; have HB := Lib.hid hb; have H1 := Lib.hid h1; have H2 := Lib.hid h2; have H3 := Lib.hid h3; have F1 := Lib.hid hf1; have F2 := Lib.hid hf2; have F3 := Lib.hid hf3
  have H81 := Lib.hid h81; have H82 := Lib.hid h82; have H83 := Lib.hid h83; have HR := Lib.hid hr; have HS := Lib.hid hs; have HD := Lib.hid hd
  have G2 := Lib.hid g2
  obtain ⟨B, HBB⟩ : ∃ B, Hid (decide (Agr rows srcs L f k) = B) := ⟨_, Lib.hid rfl⟩
  rw [HBB.out]
  have S0 := Lib.hid (St.start w)
  have f0 : (0 : Int) ≤ (f : Int) := by omega
  have k0 : (0 : Int) ≤ (k : Int) := by omega
  have hsub : (f : Int) + (k : Int) - (f : Int) = (k : Int) := by omega
  clear hS hb h1 h2 h3 hf1 hf2 hf3 h81 h82 h83 hr hs hd hE g1 g2 g3 g4 g5 g6
  go_enter Try.func15, Try.ntmps15
  go_wp2_with ((with_reducible refine at_slot (N := 9) rfl ?_); refine box_law rfl _ _ #[.int .i64 (f : Int), .int .i64 ((f + k : Nat) : Int)] rfl rfl S0.out ?_; intro sb w1 h1; have y0 := (St.blk h1 (b := sb) (t := 32) (c := #[.int .i64 (f : Int), .int .i64 ((f + k : Nat) : Int)]) mem0).cell (i := 0) rfl; have y1 := (St.blk h1 (b := sb) (t := 32) (c := #[.int .i64 (f : Int), .int .i64 ((f + k : Nat) : Int)]) mem0).cell (i := 1) rfl; (try simp only [World.size_alloc, List.nil_append, List.cons_append, List.append_eq] at h1); have S1 := Lib.hid h1; clear h1 S0)
  refine (HC.out _ _ S1.out).mono ?_
  rintro e w2 ⟨rfl, hh⟩
  have h2 := S1.out.call hh; clear hh S1
  try simp only [List.nil_append, List.cons_append, List.append_eq, Int.toNat_natCast] at h2
  have S2 := Lib.hid h2; clear h2
  clear y0 y1
  have y0 := (S2.out.blk (b := sb) (t := 32) (c := #[.int .i64 (f : Int), .int .i64 ((f + k : Nat) : Int)]) mem0).cell (i := 0) rfl
  have y1 := (S2.out.blk (b := sb) (t := 32) (c := #[.int .i64 (f : Int), .int .i64 ((f + k : Nat) : Int)]) mem0).cell (i := 1) rfl
  go_wp2_with ((with_reducible refine at_slot (N := 32) rfl ?_); refine make_law rfl 39 5 _ .u8 (k) 1 rfl rfl Try.underlying39 info_u8 (by omega) (by omega) S2.out ?_; intro bw w3 h3; (try simp only [World.size_alloc, List.nil_append, List.cons_append, List.append_eq] at h3); have S3 := Lib.hid h3; clear h3 S2)
  have SQ := S3; clear S3
  clear y0 y1 hsub
  have hbw : w.heap.size ≤ bw := SQ.out.ge mem0
  have HNEB : Hid (∀ e ∈ S, e.b ≠ bw) := Lib.hid (fun e he hb => by have := (HB.out e he).lt; omega)
  go_loopw [35] (fun vi wq => ∃ (i : Nat) (X : List Nat), i ≤ n1 ∧ vi = .int .i64 i ∧ X.length = k ∧ B8 X ∧ St w wq [] [bt bw X, ⟨sb, 32, #[.int .i64 (f : Int), .int .i64 ((f + k : Nat) : Int)]⟩] ∧ ∀ r, r < i → ((L.getD r []).drop f).take k = sumL (rows.getD r []) srcs f k) (fun vi _ => n1 - (intOf vi).toNat)
  case atStart => exact ⟨0, zs k, by omega, rfl, zs_length k, B8.zeros k, SQ.out, fun r hr => by omega⟩
  case round =>
    clear SQ
    obtain ⟨i, X, hi, rfl, hX, hX8, hs, hall⟩ := hrel
    have S3 := Lib.hid hs; have HX := Lib.hid hX; have HX8 := Lib.hid hX8; have HALL := Lib.hid hall; clear hs hX hX8 hall
    by_cases hlt : i < n1
    · have y0 := (S3.out.blk (b := sb) (t := 32) (c := #[.int .i64 (f : Int), .int .i64 ((f + k : Nat) : Int)]) mem1).cell (i := 0) rfl
      have y1 := (S3.out.blk (b := sb) (t := 32) (c := #[.int .i64 (f : Int), .int .i64 ((f + k : Nat) : Int)]) mem1).cell (i := 1) rfl
      obtain ⟨b4, o4, B4, d4, e4, x4, g4, r4, off4⟩ := (S3.out.extL (HR.out bw hbw)).at (i := i) (by rw [H1.out]; exact hlt)
      obtain ⟨b5, o5, B5, d5, e5, x5, g5, r5, off5⟩ := HD.out.at (i := i) (by rw [H3.out]; exact hlt)
      subst e4 e5
      rw [G2.out _ (mem_getD (by rw [H1.out]; exact hlt)), H2.out] at x4
      have R4 := Lib.hid r4; have O4 := Lib.hid off4; have G5 := Lib.hid g5
      have H84 := Lib.hid (H81.out.get i)
      have HL4 : Hid ((rows.getD i []).length = n2) := Lib.hid (by rw [G2.out _ (mem_getD (by rw [H1.out]; exact hlt)), H2.out])
      clear r4 off4 g4 off5
      obtain ⟨ln, hln⟩ : ∃ ln, Hid ((L.getD i []).length = ln) := ⟨_, Lib.hid rfl⟩
      have H8L := Lib.hid (H83.out.get i)
      have hfit : f + k ≤ ln := by rw [← hln.out]; exact HLM.out _ (List.mem_append_right _ (mem_getD (by rw [H3.out]; exact hlt)))
      rw [hln.out] at x5 g5
      have K5 := Lib.hid (fun (w' : World) (N' : List Ent) (hs : St w w' [] N') => (⟨by rw [hs.below.cell (p := ⟨b5, o5 + i, none⟩) (cell_lt x5)]; exact x5, hs.ext r5⟩ : w'.cell? ⟨b5, o5 + i, none⟩ = some (.slice B5 ln d5) ∧ Rd w' B5 (L.getD i [])))
      clear x5 r5
      have HDI : Hid (L.getD i [] = L.getD i []) := Lib.hid rfl
      have HAG : Hid (Agr rows srcs L f k → ((L.getD i []).drop f).take k = sumL (rows.getD i []) srcs f k) := Lib.hid (fun h => h i (by rw [H3.out]; exact hlt))
      have HALL2 : Hid (((L.getD i []).drop f).take k = sumL (rows.getD i []) srcs f k → ∀ r, r < i + 1 → ((L.getD r []).drop f).take k = sumL (rows.getD r []) srcs f k) := Lib.hid (fun h r hr => by
        rcases Nat.lt_or_ge r i with h1 | h1
        · exact HALL.out r h1
        · obtain rfl : r = i := by omega
          exact h)
      clear HALL HDI
      generalize L.getD i [] = D at *
      generalize rows.getD i [] = row at *
      have HCS := Lib.hid (sum_at (kc := d4) (mc := c2) (f := f) (n := k) (cd := k) (od := 0) (bd := bw) (D := X) (row := row) (srcs := srcs) (w := wr) (k := n2) (m := n2) SE.out (HB.out.keep S3.out (by simp)) HNEB.out (S3.out.blk mem0) (by rw [HX.out]; omega) HX8.out (Nat.le_refl _) HL4.out R4.out O4.out H84.out H2.out (Nat.le_refl _) (S3.out.extL (HS.out bw hbw)) (fun l hl => ⟨H82.out l hl, HLM.out l (List.mem_append_left _ hl), F2.out.2 l hl⟩) (by omega) hfk (by have := F2.out.1; have := H2.out; omega))
      have HSL := Lib.hid (sumL_length row srcs f k)
      have HS8 := Lib.hid (sumK_b8 (row := row) (srcs := srcs) (f := f) (n := k) (i := row.length) H84.out (Nat.le_refl _))
      have i1 : (i : Int) < (n1 : Int) := by omega
      go_wp2_with fail
      refine HCS.out.mono ?_
      rintro e w4 ⟨rfl, hh⟩
      have h4 := S3.out.callN (N1 := []) hh
      rw [wr_all _ _ (by rw [HX.out, HSL.out]), List.nil_append, List.nil_append] at h4
      have S4 := Lib.hid h4
      clear h4 HCS hh x4 y0 y1
      have y0 := (S4.out.blk (b := sb) (t := 32) (c := #[.int .i64 (f : Int), .int .i64 ((f + k : Nat) : Int)]) mem1).cell (i := 0) rfl
      have y1 := (S4.out.blk (b := sb) (t := 32) (c := #[.int .i64 (f : Int), .int .i64 ((f + k : Nat) : Int)]) mem1).cell (i := 1) rfl
      have x5 := (K5.out _ _ S4.out).1
      go_wp2_with fail
      refine wp_region_quiet_lit (by kernel_rfl) (by kernel_rfl) ?_
      iterate 8 (first | go_big_quiet_step (fail) | quiet_step (fail))
      refine quiet_slice rfl 39 5 Try.underlying39 (by kernel_rfl) _ _ _ rfl B5 ln d5 f k rfl _ _ rfl rfl rfl (by simp) (by omega) ?_
      iterate 2 (first | go_big_quiet_step (fail) | quiet_step (fail))
      refine wpQuiet_nil ?_
      rintro _ ⟨nq, rfl⟩
      have S5 := Lib.hid (S4.out.drewN (n := nq)); clear S4 x5 y0 y1
      have R6 := Lib.hid (Rd.cut (K5.out _ _ S5.out).2 d5 f k G5.out)
      have HL6 : Hid (((D.drop f).take k).length = k) := Lib.hid (by rw [List.length_take, List.length_drop, hln.out]; omega)
      have H86 := Lib.hid (H8L.out.piece f k)
      have R7 := Lib.hid (S5.out.rd mem0)
      obtain ⟨A6, hA6⟩ : ∃ A6, Hid (cutA B5 d5 f = A6) := ⟨_, Lib.hid rfl⟩
      rw [hA6.out] at R6 ⊢
      generalize (D.drop f).take k = U at *
      generalize hV : sumL row srcs f k = V at *
      rw [show sumK row srcs f k row.length = V from hV] at HS8
      clear hV K5
      generalize w4.drewN nq = w5 at *
      go_wp2_with fail
      go_loop [57] (fun vi => ∃ u : Nat, u ≤ k ∧ vi = .int .i64 u ∧ U.take u = V.take u) (fun vi => k - (intOf vi).toNat)
      case atStart => exact ⟨0, by omega, rfl, rfl⟩
      case round =>
        obtain ⟨u, hu, rfl, ht⟩ := hrel
        have HT := Lib.hid ht; clear ht
        by_cases huk : u < k
        · obtain ⟨b6, o6, e6, k6⟩ := R6.out (by rw [HL6.out]; omega)
          obtain ⟨b7, o7, e7, k7⟩ := R7.out (by rw [HSL.out]; omega)
          injection e7 with e7; injection e7 with e71 e72 _
          have x6 := k6 u (by rw [HL6.out]; exact huk)
          have x7 := k7 u (by rw [HSL.out]; exact huk)
          rw [← e71, ← e72, Nat.zero_add] at x7
          subst e6
          have y6 := H86.out.get (i := u) (by rw [HL6.out]; exact huk)
          have y7 := HS8.out.get (i := u) (by rw [HSL.out]; exact huk)
          have HG1 : Hid (U[u]? = some (U.getD u 0)) := Lib.hid (by have := HL6.out; simp [show u < U.length by omega])
          have HG2 : Hid (V[u]? = some (V.getD u 0)) := Lib.hid (by have := HSL.out; simp [show u < V.length by omega])
          clear k6 k7 e71 e72
          generalize U.getD u 0 = a at *
          generalize V.getD u 0 = b at *
          have i2 : (u : Int) < (k : Int) := by omega
          by_cases hab : a = b
          · subst hab
            have HT2 : Hid (U.take (u + 1) = V.take (u + 1)) := Lib.hid (by rw [List.take_add_one, List.take_add_one, HT.out, HG1.out, HG2.out])
            clear R6 R7
            go_wp2_with fail
            clear x6 x7
            go_round
            case rel => exact ⟨u + 1, by omega, by go_num, HT2.out⟩
            case measure => simp [intOf]; omega
          · have q2 : (((a : Nat) : Int) != ((b : Nat) : Int)) = true := by rw [bne_iff_ne]; omega
            have q4 : (((a : Nat) : Int) == ((b : Nat) : Int)) = false := by rw [beq_eq_false_iff_ne]; omega
            have q1 : (a == b) = false := by simpa using hab
            have q3 : (a != b) = true := by rw [bne_iff_ne]; exact hab
            have HQ : Hid (B = false) := Lib.hid (by
              rw [← HBB.out, decide_eq_false_iff_not]
              intro h
              have h2 := HAG.out h
              have h3 := HG1.out
              rw [h2, HG2.out] at h3
              injection h3 with h3
              exact hab h3.symm)
            clear hab R6 R7
            go_wp2_with fail
            go_ret2
            have hq := HQ.out
            subst hq
            exact ⟨rfl, S5.out.nil⟩
        · obtain rfl : u = k := by omega
          have hUV : U = V := by
            have := HT.out
            rw [List.take_of_length_le (by rw [HL6.out]; exact Nat.le_refl _), List.take_of_length_le (by rw [HSL.out]; exact Nat.le_refl _)] at this
            exact this
          have HA2 := Lib.hid (HALL2.out hUV)
          clear hUV
          go_wp2_with fail
          refine ⟨⟨i + 1, V, by omega, by simp, HSL.out, HS8.out, S5.out, HA2.out⟩, ?_⟩
          simp [intOf]; omega
    · obtain rfl : i = n1 := by omega
      have HQ : Hid (B = true) := Lib.hid (by
        rw [← HBB.out, decide_eq_true_eq]
        intro r hr
        exact HALL.out r (by rw [← H3.out]; exact hr))
      go_wp2_with fail
      go_ret2
      have hq := HQ.out
      subst hq
      exact ⟨rfl, S3.out.nil⟩

end Go.Proofs.Ytdbfkjhdnbmpeaa.Sk

namespace Go.Proofs.Ytdbfkjhdnbmpeaa.Sk
set_option linter.unusedSimpArgs false
set_option linter.unusedVariables false
open Go Go.RowKit Go.Proofs.Ytdbfkjhdnbmpeaa Go.Proofs.Ytdbfkjhdnbmpeaa.Mm Go.Proofs.Ytdbfkjhdnbmpeaa.Gf Go.Proofs.Ytdbfkjhdnbmpeaa.Wr Go.Proofs.Ytdbfkjhdnbmpeaa.Nb Go.Proofs.Ytdbfkjhdnbmpeaa.St

def SprOk (col diff : List Nat) (L : List (List Nat)) : Prop := col.length = L.length ∧ ∀ l ∈ L, l.length = diff.length
instance (col diff : List Nat) (L : List (List Nat)) : Decidable (SprOk col diff L) := by unfold SprOk; infer_instance
/-- What Spread refuses. -/
def sprE (col diff : List Nat) (L : List (List Nat)) (f t : Int) : Int := if SprOk col diff L then rngE f t diff.length else 6
theorem spr_zero {col diff : List Nat} {L : List (List Nat)} {f t : Int} (h : sprE col diff L f t = 0) : SprOk col diff L ∧ 0 ≤ f ∧ f ≤ t ∧ t ≤ (diff.length : Int) := by
  unfold sprE at h
  split at h
  · rename_i h1
    unfold rngE at h
    split at h
    · rename_i h2; exact ⟨h1, h2⟩
    · exact absurd h (by decide)
  · exact absurd h (by decide)
/-- One list with c times the difference added within the span. -/
def spr1 (c : Nat) (diff D : List Nat) (f k : Nat) : List Nat := Wr.wr D f ((List.range k).map fun u => D.getD (f + u) 0 ^^^ gm c (diff.getD (f + u) 0))
theorem spr1_length (c : Nat) (diff D : List Nat) (f k : Nat) : (spr1 c diff D f k).length = D.length := wr_length _ _ _
theorem spr1_cut {c : Nat} {diff D : List Nat} {od f k : Nat} (h : 0 < k → od = f) : Wr.wr D od ((List.range k).map fun u => D.getD (od + u) 0 ^^^ gm c (((diff.drop f).take k).getD u 0)) = spr1 c diff D f k := by
  rcases Nat.eq_zero_or_pos k with h0 | h0
  · subst h0; rfl
  · rw [h h0]
    unfold spr1
    congr 1
    apply List.map_congr_left
    intro u hu
    have hu' : u < k := by simpa using hu
    congr 2
    rw [List.getD_eq_getElem?_getD, List.getElem?_take, if_pos hu', List.getElem?_drop, ← List.getD_eq_getElem?_getD]
def sprR (col diff : List Nat) (L : List (List Nat)) (f k : Nat) : Nat → List (List Nat)
  | 0 => L
  | i + 1 => (sprR col diff L f k i).set i (spr1 (col.getD i 0) diff (L.getD i []) f k)
def sprL (col diff : List Nat) (L : List (List Nat)) (f k : Nat) : List (List Nat) := sprR col diff L f k L.length
theorem sprR_length (col diff : List Nat) (L : List (List Nat)) (f k : Nat) : ∀ i, (sprR col diff L f k i).length = L.length
  | 0 => rfl
  | i + 1 => by rw [sprR, List.length_set, sprR_length col diff L f k i]
theorem sprR_get (col diff : List Nat) (L : List (List Nat)) (f k : Nat) : ∀ (i j : Nat), (sprR col diff L f k i).getD j [] = if j < i ∧ j < L.length then spr1 (col.getD j 0) diff (L.getD j []) f k else L.getD j []
  | 0, j => by rw [if_neg (by omega)]; rfl
  | i + 1, j => by
    rw [sprR, List.getD_eq_getElem?_getD, List.getElem?_set]
    by_cases h : i = j
    · subst h
      rw [if_pos rfl, sprR_length]
      by_cases h2 : i < L.length
      · rw [if_pos h2, if_pos (by omega)]; rfl
      · rw [if_neg h2, if_neg (by omega)]; simp [h2]
    · rw [if_neg h, ← List.getD_eq_getElem?_getD, sprR_get col diff L f k i j]
      by_cases h2 : j < i ∧ j < L.length
      · rw [if_pos h2, if_pos (by omega)]
      · rw [if_neg h2, if_neg (by omega)]
theorem sprL_get {col diff : List Nat} {L : List (List Nat)} {f k j : Nat} (h : j < L.length) : (sprL col diff L f k).getD j [] = spr1 (col.getD j 0) diff (L.getD j []) f k := by
  unfold sprL; rw [sprR_get, if_pos ⟨h, h⟩]
theorem sprL_length (col diff : List Nat) (L : List (List Nat)) (f k : Nat) : (sprL col diff L f k).length = L.length := sprR_length _ _ _ _ _ _

set_option maxRecDepth 100000 in
theorem spread_nil (v1 v2 v3 : Value) (f t : Int) (w : World) : Calls Try.prog 19 #[.pointer none, v1, v2, v3, .agg #[.int .i64 f, .int .i64 t]] w fun e w' => e = .returned (.int .i64 1) ∧ St w w' [] [] := by
  have S0 := Lib.hid (St.start w)
  go_enter Try.func19, Try.ntmps19
  go_wp2_with ((with_reducible refine at_slot (N := 9) rfl ?_); refine box_law rfl _ _ #[.int .i64 f, .int .i64 t] rfl rfl S0.out ?_; intro sb w1 h1; (try simp only [World.size_alloc, List.nil_append, List.cons_append, List.append_eq] at h1); have S1 := Lib.hid h1; clear h1 S0)
  go_ret
  exact ⟨rfl, S1.out.nil⟩

set_option maxRecDepth 100000 in
set_option maxHeartbeats 4000000 in
theorem spread_bad {p j : Nat} {S : List Ent} {A1 A2 A3 : Option Addr} {n1 n2 n3 c1 c2 c3 : Nat} {col diff : List Nat} {L : List (List Nat)} {f t : Int} {w : World} (hS : SetE p j S) (hb : There w S) (h1 : col.length = n1) (h2 : diff.length = n2) (h3 : L.length = n3) (hf3 : Fit L)
    (hd : RdL w [] A3 L) (hn2 : n2 ≤ 140737488351232) (hE : sprE col diff L f t ≠ 0) :
    Calls Try.prog 19 #[.pointer (some ⟨p, 0, none⟩), .slice A1 n1 c1, .slice A2 n2 c2, .slice A3 n3 c3, .agg #[.int .i64 f, .int .i64 t]] w fun e w' => e = .returned (.int .i64 (sprE col diff L f t)) ∧ St w w' [] [] := by
  obtain ⟨T, x, hp⟩ := There.head hS
  obtain ⟨E, HE⟩ : ∃ E, Hid (sprE col diff L f t = E) := ⟨_, Lib.hid rfl⟩
  rw [HE.out] at hE ⊢
  have H6 : Hid (¬ SprOk col diff L → E = 6) := Lib.hid (fun h => by rw [← HE.out]; unfold sprE; rw [if_neg h])
  have HO : Hid (SprOk col diff L → E = rngE f t (n2 : Int)) := Lib.hid (fun h => by rw [← HE.out, ← h2]; unfold sprE; rw [if_pos h])
  have q1 : (E == 0) = false := by simpa using hE
  have q2 : (E != 0) = true := by rw [bne_iff_ne]; exact hE
  have m0 := (hb _ hp).cell (i := 0) rfl
  have HB := Lib.hid hb; have HP := Lib.hid hp; have H1 := Lib.hid h1; have H2 := Lib.hid h2; have H3 := Lib.hid h3; have F3 := Lib.hid hf3; have HD := Lib.hid hd
  have S0 := Lib.hid (St.start w)
  have hb3 : n3 ≤ 140737488351232 := by have := hf3.1; omega
  clear hS hb h1 h2 h3 hf3 hd hE hp
  by_cases h13 : n1 = n3
  · subst h13
    go_enter Try.func19, Try.ntmps19
    go_wp2_with ((with_reducible refine at_slot (N := 9) rfl ?_); refine box_law rfl _ _ #[.int .i64 f, .int .i64 t] rfl rfl S0.out ?_; intro sb w1 h1; have m1 := ((HB.out.keep h1 (by simp)) _ HP.out).cell (i := 0) rfl; clear m0; (try simp only [World.size_alloc, List.nil_append, List.cons_append, List.append_eq] at h1); have S1 := Lib.hid h1; clear h1 S0)
    clear m1
    go_loop [33] (fun vi => ∃ i : Nat, i ≤ n1 ∧ vi = .int .i64 i ∧ ∀ j, j < i → (L.getD j []).length = n2) (fun vi => n1 - (intOf vi).toNat)
    case atStart => exact ⟨0, by omega, rfl, fun j hj => by omega⟩
    case round =>
      obtain ⟨i, hi, rfl, hall⟩ := hrel
      have HALL := Lib.hid hall; clear hall
      by_cases hlt : i < n1
      · obtain ⟨b4, o4, B4, d4, e4, x4, g4, r4, _⟩ := (S1.out.extL HD.out).at (i := i) (by rw [H3.out]; exact hlt)
        subst e4
        have HMEM : Hid (L.getD i [] ∈ L) := Lib.hid (mem_getD (by rw [H3.out]; exact hlt))
        obtain ⟨q, hq⟩ : ∃ q, Hid ((L.getD i []).length = q) := ⟨_, Lib.hid rfl⟩
        rw [hq.out] at x4
        clear r4 g4
        have i1 : (i : Int) < (n1 : Int) := by omega
        by_cases hqn : q = n2
        · subst hqn
          go_wp2_with fail
          clear x4
          go_round
          case rel => exact ⟨i + 1, by omega, by go_num, fun j hj => by
            rcases Nat.lt_or_ge j i with h | h
            · exact HALL.out j h
            · obtain rfl : j = i := by omega
              exact hq.out⟩
          case measure => simp [intOf]; omega
        · have q1 : (q == n2) = false := by simpa using hqn
          have q2 : (((q : Nat) : Int) != ((n2 : Nat) : Int)) = true := by rw [bne_iff_ne]; omega
          have q3 : (q != n2) = true := by rw [bne_iff_ne]; exact hqn
          have HQ : Hid (E = 6) := Lib.hid (H6.out fun h => hqn (by rw [← hq.out, ← H2.out]; exact h.2 _ HMEM.out))
          clear hqn
          go_wp2_with fail
          go_ret
          have hq := HQ.out
          subst hq
          exact ⟨rfl, S1.out.nil⟩
      · obtain rfl : i = n1 := by omega
        have HEE : Hid (E = rngE f t (n2 : Int)) := Lib.hid (HO.out ⟨by rw [H1.out, H3.out], fun r hr => by
          obtain ⟨u, hu, rfl⟩ := List.getElem_of_mem hr
          have := HALL.out u (by rw [← H3.out]; exact hu)
          rw [H2.out, ← this]; simp [hu]⟩)
        have y0 := (S1.out.blk (b := sb) (t := 32) (c := #[.int .i64 f, .int .i64 t]) mem0).cell (i := 0) rfl
        have y1 := (S1.out.blk (b := sb) (t := 32) (c := #[.int .i64 f, .int .i64 t]) mem0).cell (i := 1) rfl
        clear hlt
        have HW := Lib.hid (within_st f t (n2 : Int))
        rw [← HEE.out] at HW
        go_wp2_with fail
        refine (HW.out _).mono ?_
        rintro e w2 ⟨rfl, hh⟩
        have h2 := S1.out.call hh; clear hh S1
        try simp only [List.nil_append, List.cons_append, List.append_eq, Int.toNat_natCast] at h2
        have S2 := Lib.hid h2; clear h2
        go_wp2_with fail
        go_ret
        exact ⟨rfl, S2.out.nil⟩
  · have q1 : (n1 == n3) = false := by simpa using h13
    have q2 : (((n1 : Nat) : Int) != ((n3 : Nat) : Int)) = true := by rw [bne_iff_ne]; omega
    have q3 : (n1 != n3) = true := by rw [bne_iff_ne]; exact h13
    have HQ : Hid (E = 6) := Lib.hid (H6.out fun h => h13 (by rw [← H1.out, ← H3.out]; exact h.1))
    clear h13
    go_enter Try.func19, Try.ntmps19
    go_wp2_with ((with_reducible refine at_slot (N := 9) rfl ?_); refine box_law rfl _ _ #[.int .i64 f, .int .i64 t] rfl rfl S0.out ?_; intro sb w1 h1; have m1 := ((HB.out.keep h1 (by simp)) _ HP.out).cell (i := 0) rfl; clear m0; (try simp only [World.size_alloc, List.nil_append, List.cons_append, List.append_eq] at h1); have S1 := Lib.hid h1; clear h1 S0)
    go_ret
    have hq := HQ.out
    subst hq
    exact ⟨rfl, S1.out.nil⟩

set_option maxRecDepth 100000 in
set_option maxHeartbeats 4000000 in
theorem spread_ok {p j : Nat} {S : List Ent} {A1 A2 A3 : Option Addr} {n1 n2 n3 c1 c2 c3 : Nat} {col diff : List Nat} {L : List (List Nat)} {bs : List Nat} {f t : Nat} {w : World} (hS : SetE p j S) (hb : There w S) (hne : ∀ e ∈ S, e.b ∉ bs) (h1 : col.length = n1) (h2 : diff.length = n2) (h3 : L.length = n3) (hf3 : Fit L) (hn2 : n2 ≤ 140737488351232) (hc2 : n2 ≤ c2)
    (h81 : B8 col) (h82 : B8 diff) (h83 : B8L L) (hbs : bs.length = L.length) (hX : St w w (ents bs L) []) (hr : Rd w A1 col) (hA1 : Off bs A1) (hs : Rd w A2 diff) (hA2 : Off bs A2) (hd : RdV es w A3 (sds bs L)) (hA3 : Off bs A3) (hE : sprE col diff L (f : Int) (t : Int) = 0) :
    Calls Try.prog 19 #[.pointer (some ⟨p, 0, none⟩), .slice A1 n1 c1, .slice A2 n2 c2, .slice A3 n3 c3, .agg #[.int .i64 (f : Int), .int .i64 (t : Int)]] w fun e w' => e = .returned (.int .i64 0) ∧ St w w' (ents bs (sprL col diff L f (t - f))) [] := by
  obtain ⟨⟨g1, g2⟩, g4, g5, g6⟩ := spr_zero hE
  obtain rfl : n1 = n3 := by omega
  obtain ⟨k, hk⟩ : ∃ k, t = f + k := ⟨t - f, by omega⟩
  subst hk
  rw [show f + k - f = k by omega]
  have hfk : f + k ≤ n2 := by omega
  have hrng : rngE (f : Int) ((f : Int) + (k : Int)) (n2 : Int) = 0 := by unfold rngE; rw [if_pos (by omega)]
  have HW := Lib.hid (within_st (f : Int) ((f : Int) + (k : Int)) (n2 : Int))
  rw [hrng] at HW
  obtain ⟨T, x, F, r, hSe, hK⟩ := hS.ker
  have HK := Lib.hid hK
  have HPM := Lib.hid (show (⟨p, 79, #[.iface T (.pointer (some x)), .int .i64 (j : Int)]⟩ : Ent) ∈ S by rw [hSe]; exact mem0)
  have hb1 : n1 ≤ 140737488351232 := by have := hf3.1; omega
  have m0 := (hb _ HPM.out).cell (i := 0) rfl
  have HB := Lib.hid hb; have HNE := Lib.hid hne; have H1 := Lib.hid h1; have H2 := Lib.hid h2; have H3 := Lib.hid h3; have F3 := Lib.hid hf3
  have H81 := Lib.hid h81; have H82 := Lib.hid h82; have H83 := Lib.hid h83; have HBS := Lib.hid hbs; have HR := Lib.hid hr; have HA1 := Lib.hid hA1; have HS := Lib.hid hs; have HA2 := Lib.hid hA2; have HD := Lib.hid hd; have HA3 := Lib.hid hA3
  have G2 := Lib.hid g2
  have S0 : Hid (St w w (ents bs (sprR col diff L f k 0)) []) := Lib.hid hX
  have HEND : Hid (sprR col diff L f k n1 = sprL col diff L f k) := Lib.hid (by unfold sprL; rw [h3])
  have HAL := Lib.hid (sprR_length col diff L f k)
  clear hS hb hne h1 h2 h3 hf3 h81 h82 h83 hbs hX hr hs hd hA1 hA2 hA3 hE g1 g2 g4 g5 g6 hSe hK hrng
  go_enter Try.func19, Try.ntmps19
  go_wp2_with ((with_reducible refine at_slot (N := 9) rfl ?_); refine box_law rfl _ _ #[.int .i64 (f : Int), .int .i64 ((f + k : Nat) : Int)] rfl rfl S0.out ?_; intro sb w1 h1; have m1 := ((HB.out.keep h1 (fun e he x hx hxe => HNE.out e he (by rw [← hxe]; exact ents_b' HBS.out x hx))) _ HPM.out).cell (i := 0) rfl; clear m0; (try simp only [World.size_alloc, List.nil_append, List.cons_append, List.append_eq] at h1); have S1 := Lib.hid h1; clear h1 S0)
  clear m1
  go_loop [33] (fun vi => ∃ i : Nat, i ≤ n1 ∧ vi = .int .i64 i) (fun vi => n1 - (intOf vi).toNat)
  case atStart => exact ⟨0, by omega, rfl⟩
  case round =>
    obtain ⟨i, hi, rfl⟩ := hrel
    by_cases hlt : i < n1
    · obtain ⟨b5, o5, e5, k5⟩ := (S1.out.rdVX HD.out HA3.out (ents_b' HBS.out)) (by rw [sds_length HBS.out, H3.out]; omega)
      have x5 := k5 i _ (sds_get HBS.out (by rw [H3.out]; exact hlt))
      subst e5
      clear k5
      simp only [es] at x5
      rw [G2.out _ (mem_getD (by rw [H3.out]; exact hlt)), H2.out] at x5
      have i1 : (i : Int) < (n1 : Int) := by omega
      go_wp2_with fail
      clear x5
      go_round
      case rel => exact ⟨i + 1, by omega, by go_num⟩
      case measure => simp [intOf]; omega
    · obtain rfl : i = n1 := by omega
      have y0 := (S1.out.blk (b := sb) (t := 32) (c := #[.int .i64 (f : Int), .int .i64 ((f + k : Nat) : Int)]) mem0).cell (i := 0) rfl
      have y1 := (S1.out.blk (b := sb) (t := 32) (c := #[.int .i64 (f : Int), .int .i64 ((f + k : Nat) : Int)]) mem0).cell (i := 1) rfl
      go_wp2_with fail
      refine (HW.out _).mono ?_
      rintro e w2 ⟨rfl, hh⟩
      have h2 := S1.out.call hh; clear hh S1
      try simp only [List.nil_append, List.cons_append, List.append_eq, Int.toNat_natCast] at h2
      have S2 := Lib.hid h2; clear h2
      have SQ := S2; clear S2
      go_wp2_with fail
      clear HW y0 y1 hi hlt
      obtain ⟨n1, rfl⟩ : ∃ n1, n1 = i := ⟨_, rfl⟩
      go_loopw [52] (fun vi wq => ∃ i : Nat, i ≤ n1 ∧ vi = .int .i64 i ∧ St w wq (ents bs (sprR col diff L f k i)) [⟨sb, 32, #[.int .i64 (f : Int), .int .i64 ((f + k : Nat) : Int)]⟩]) (fun vi _ => n1 - (intOf vi).toNat)
      case atStart => exact ⟨0, by omega, rfl, SQ.out⟩
      case round =>
        clear SQ
        obtain ⟨i, hi, rfl, hs⟩ := hrel
        have S3 := Lib.hid hs; clear hs
        by_cases hlt : i < n1
        · have y0 := (S3.out.blk (b := sb) (t := 32) (c := #[.int .i64 (f : Int), .int .i64 ((f + k : Nat) : Int)]) mem0).cell (i := 0) rfl
          have y1 := (S3.out.blk (b := sb) (t := 32) (c := #[.int .i64 (f : Int), .int .i64 ((f + k : Nat) : Int)]) mem0).cell (i := 1) rfl
          have HBE := Lib.hid (ents_b' (bs := bs) (L := sprR col diff L f k i) (by rw [HBS.out, HAL.out]))
          obtain ⟨b4, o4, e4, k4⟩ := (S3.out.rdX HR.out HA1.out HBE.out) (by rw [H1.out]; omega)
          have x4 := k4 i (by rw [H1.out]; exact hlt)
          subst e4
          clear k4
          have hc := H81.out.get (i := i) (by rw [H1.out]; exact hlt)
          obtain ⟨b5, o5, e5, k5⟩ := (S3.out.rdVX HD.out HA3.out HBE.out) (by rw [sds_length HBS.out, H3.out]; omega)
          have x5 := k5 i _ (sds_get HBS.out (by rw [H3.out]; exact hlt))
          subst e5
          clear k5
          simp only [es] at x5
          have HLN : Hid ((L.getD i []).length = n2) := Lib.hid (by rw [G2.out _ (mem_getD (by rw [H3.out]; exact hlt)), H2.out])
          rw [HLN.out] at x5
          have HBB : Hid (bs.getD i 0 ∈ bs) := Lib.hid (mem_getD (by rw [HBS.out, H3.out]; exact hlt))
          obtain ⟨P, Q, hP, hQ⟩ := ents_split (bs := bs) (L := sprR col diff L f k i) (i := i) (by rw [HBS.out, HAL.out]) (by rw [HAL.out, H3.out]; exact hlt)
          have HP := Lib.hid hP; have HQ := Lib.hid hQ; clear hP hQ
          have HGI : Hid ((sprR col diff L f k i).getD i [] = L.getD i []) := Lib.hid (by rw [sprR_get, if_neg (by omega)])
          rw [HGI.out] at HP
          have HST : Hid ((sprR col diff L f k i).set i (spr1 (col.getD i 0) diff (L.getD i []) f k) = sprR col diff L f k (i + 1)) := Lib.hid rfl
          have HQ2 := Lib.hid (HQ.out (spr1 (col.getD i 0) diff (L.getD i []) f k))
          rw [HST.out] at HQ2
          have H8L := Lib.hid (H83.out.get i)
          have S4 : Hid (St w wr (P ++ bt (bs.getD i 0) (L.getD i []) :: Q) [⟨sb, 32, #[.int .i64 (f : Int), .int .i64 ((f + k : Nat) : Int)]⟩]) := Lib.hid (by rw [← HP.out]; exact S3.out)
          clear HQ HGI HST
          generalize bs.getD i 0 = bd at *
          generalize L.getD i [] = D at *
          generalize col.getD i 0 = c at *
          have m0 := ((HB.out.keep S3.out (fun e he x hx hxe => HNE.out e he (by rw [← hxe]; exact HBE.out x hx))) _ HPM.out).cell (i := 0) rfl
          obtain ⟨od, hod, hod1, hod2⟩ := cutA_some (b := bd) (o := 0) n2 f
          have HODW := Lib.hid (spr1_cut (c := c) (diff := diff) (D := D) (od := od) (f := f) (k := k) (fun h => by rw [hod2 (by omega)]; omega))
          have HOD := Lib.hid hod
          have HNEB : Hid (∀ e ∈ S, e.b ≠ bd) := Lib.hid (fun e he hb => HNE.out e he (by rw [hb]; exact HBB.out))
          have c0 : (0 : Int) ≤ (c : Int) := by omega
          have c1' : (c : Int) < 256 := by omega
          have hodk : od + k ≤ D.length := by rw [HLN.out]; omega
          have HODK := Lib.hid hodk
          clear hod hod1 hod2 hodk
          have i1 : (i : Int) < (n1 : Int) := by omega
          have f0 : (0 : Int) ≤ (f : Int) := by omega
          have k0 : (0 : Int) ≤ (k : Int) := by omega
          go_wp2_with fail
          refine Qt.quiet_tail 23 (by kernel_rfl) (by kernel_rfl) ?_
          simp only [List.take_succ_cons, List.take_zero, List.drop_succ_cons, List.drop_zero]
          iterate 14 (first | go_big_quiet_step (fail) | quiet_step (fail))
          refine quiet_slice rfl 39 5 Try.underlying39 (by kernel_rfl) _ _ _ rfl (some ⟨bd, 0, none⟩) n2 n2 f k rfl _ _ rfl rfl rfl (by simp) hfk ?_
          rw [HOD.out]
          iterate 5 (first | go_big_quiet_step (fail) | quiet_step (fail))
          refine quiet_slice rfl 39 5 Try.underlying39 (by kernel_rfl) _ _ _ rfl A2 n2 c2 f k rfl _ _ rfl rfl rfl (by simp) (by omega) ?_
          iterate 2 (first | go_big_quiet_step (fail) | quiet_step (fail))
          refine wpQuiet_nil ?_
          rintro _ ⟨nq, rfl⟩
          have hm := HK.out.meth
          have hcf := HK.out.call
          clear x4 x5 y0 y1 m0
          go_wp2_with fail
          clear hm hcf
          refine (HK.out.add (c := (c : Int)) (bd := bd) (od := od) (n := k) (cd := n2 - f) (D := D) (l := (diff.drop f).take k) (HB.out.keep (S3.out.drewN (n := nq)) (fun e he x hx hxe => HNE.out e he (by rw [← hxe]; exact HBE.out x hx))) HNEB.out c0 c1' ((S4.out.drewN (n := nq)).blkW (by simp)) HODK.out (by rw [List.length_take, List.length_drop, H2.out]; omega) (H82.out.piece f k) H8L.out (by omega) (by omega) (by omega) (.inl ⟨Rd.cut ((S3.out.drewN (n := nq)).rdX HS.out HA2.out HBE.out) c2 f k (by rw [H2.out]; exact hc2), (HA2.out.sub (fun x hx => by rw [List.mem_singleton] at hx; rw [hx]; exact HBB.out)).cut⟩)).mono ?_
          rintro e w3 ⟨rfl, hh⟩
          have h5 := (S4.out.drewN (n := nq)).callW hh
          rw [Int.toNat_natCast, HODW.out, ← HQ2.out, List.nil_append] at h5
          have S5 := Lib.hid h5
          clear hh h5 S4 S3
          go_wp2_with fail
          refine ⟨⟨i + 1, by omega, by simp, S5.out⟩, ?_⟩
          simp [intOf]; omega
        · obtain rfl : i = n1 := by omega
          rw [HEND.out] at S3
          go_wp2_with fail
          go_ret
          exact ⟨rfl, S3.out.nil⟩

end Go.Proofs.Ytdbfkjhdnbmpeaa.Sk
