/- Layer 9: Spread. -/
import Derived.Test.YtdlmkhlkgklkaaaKd

namespace Go.Proofs.Ytdlmkhlkgklkaaa.Sk
set_option linter.unusedSimpArgs false
set_option linter.unusedVariables false
open Go Go.RowKit Go.Proofs.Ytdlmkhlkgklkaaa Go.Proofs.Ytdlmkhlkgklkaaa.Mm Go.Proofs.Ytdlmkhlkgklkaaa.Gf Go.Proofs.Ytdlmkhlkgklkaaa.Wr Go.Proofs.Ytdlmkhlkgklkaaa.Nb Go.Proofs.Ytdlmkhlkgklkaaa.St

theorem There.head {p j : Nat} {S : List Ent} (hS : SetE p j S) : ∃ T x, (⟨p, 62, #[.iface T (.pointer (some x)), .int .i64 (j : Int)]⟩ : Ent) ∈ S := by
  obtain ⟨T, x, F, r, hSe, _⟩ := hS.ker
  exact ⟨T, x, by rw [hSe]; exact mem0⟩
theorem mem_getD {α : Type} {L : List α} {i : Nat} {d : α} (h : i < L.length) : L.getD i d ∈ L := by
  rw [List.getD_eq_getElem?_getD, List.getElem?_eq_getElem h, Option.getD_some]; exact List.getElem_mem _

/-- What Dot asks. -/
def DotOk (row : List Nat) (srcs : List (List Nat)) (n : Nat) : Prop := row.length = srcs.length ∧ ∀ l ∈ srcs, l.length = n
instance (row : List Nat) (srcs : List (List Nat)) (n : Nat) : Decidable (DotOk row srcs n) := by unfold DotOk; infer_instance

set_option maxRecDepth 100000 in
theorem dot_nil (v1 v2 v3 : Value) (w : World) : Calls Try.prog 17 #[.pointer none, v1, v2, v3] w fun e w' => e = .returned (.int .i64 1) ∧ w = w' := by
  go_enter Try.func17, Try.ntmps17
  go_wp2
  go_ret
  exact ⟨rfl, rfl⟩

set_option maxRecDepth 100000 in
set_option maxHeartbeats 2000000 in
theorem dot_bad {p j : Nat} {S : List Ent} {Ar As Ad : Option Addr} {k kc m mc n cd : Nat} {row : List Nat} {srcs : List (List Nat)} {w : World} (hS : SetE p j S) (hb : There w S) (hk : row.length = k) (hm : srcs.length = m) (hf : Fit srcs) (hs : RdL w [] As srcs) (hn : n ≤ 140737488351232) (hbad : ¬ DotOk row srcs n) :
    Calls Try.prog 17 #[.pointer (some ⟨p, 0, none⟩), .slice Ar k kc, .slice As m mc, .slice Ad n cd] w fun e w' => e = .returned (.int .i64 6) ∧ w = w' := by
  obtain ⟨T, x, hp⟩ := There.head hS
  have m0 := (hb _ hp).cell (i := 0) rfl
  have HS := Lib.hid hs; have HF := Lib.hid hf; have HK := Lib.hid hk; have HM := Lib.hid hm; have HBAD := Lib.hid hbad
  have b2 : m ≤ 140737488351232 := by have := hf.1; omega
  clear hS hb hs hf hk hm hbad hp
  by_cases hkm : k = m
  · subst hkm
    go_enter Try.func17, Try.ntmps17
    go_wp2_with fail
    clear m0
    go_loop [28] (fun vi => ∃ i : Nat, i ≤ k ∧ vi = .int .i64 i ∧ ∀ j, j < i → (srcs.getD j []).length = n) (fun vi => k - (intOf vi).toNat)
    case atStart => exact ⟨0, by omega, rfl, fun j hj => by omega⟩
    case round =>
      obtain ⟨i, hi, rfl, hall⟩ := hrel
      have HALL := Lib.hid hall; clear hall
      by_cases hlt : i < k
      · obtain ⟨b4, o4, B4, d4, e4, x4, g4, r4, _⟩ := HS.out.at (i := i) (by rw [HM.out]; exact hlt)
        subst e4
        obtain ⟨q, hq⟩ : ∃ q, Hid ((srcs.getD i []).length = q) := ⟨_, Lib.hid rfl⟩
        rw [hq.out] at x4
        clear r4 g4
        have i1 : (i : Int) < (k : Int) := by omega
        by_cases hqn : q = n
        · subst hqn
          go_wp2_with fail
          clear x4
          go_round
          case rel => exact ⟨i + 1, by omega, by go_num, fun j hj => by
            rcases Nat.lt_or_ge j i with h | h
            · exact HALL.out j h
            · obtain rfl : j = i := by omega
              exact hq.out⟩
          case measure => simp [intOf]; omega
        · have q1 : (q == n) = false := by simpa using hqn
          have q2 : (((q : Nat) : Int) != ((n : Nat) : Int)) = true := by rw [bne_iff_ne]; omega
          have q3 : (q != n) = true := by rw [bne_iff_ne]; exact hqn
          clear hqn
          go_wp2_with fail
          go_ret
          exact ⟨rfl, rfl⟩
      · obtain rfl : i = k := by omega
        exfalso
        refine HBAD.out ⟨by rw [HK.out, HM.out], fun r hr => ?_⟩
        obtain ⟨u, hu, rfl⟩ := List.getElem_of_mem hr
        have := HALL.out u (by rw [← HM.out]; exact hu)
        rw [← this]; simp [hu]
  · have q1 : (k == m) = false := by simpa using hkm
    have q2 : (((k : Nat) : Int) != ((m : Nat) : Int)) = true := by rw [bne_iff_ne]; omega
    have q3 : (k != m) = true := by rw [bne_iff_ne]; exact hkm
    clear hkm
    go_enter Try.func17, Try.ntmps17
    go_wp2_with fail
    go_ret
    exact ⟨rfl, rfl⟩

set_option maxRecDepth 100000 in
set_option maxHeartbeats 2000000 in
theorem dot_ok {p j : Nat} {S : List Ent} {Ar As : Option Addr} {k kc m mc bd od n cd : Nat} {row : List Nat} {srcs : List (List Nat)} {D : List Nat} {w : World} (hS : SetE p j S) (hb : There w S) (hne : ∀ e ∈ S, e.b ≠ bd) (hd : Bytes w bd D) (ho : od + n ≤ D.length) (hD8 : B8 D) (hcd : n ≤ cd)
    (hk : row.length = k) (hr : Rd w Ar row) (hro : Off [bd] Ar) (hr8 : B8 row) (hm : srcs.length = m) (hf : Fit srcs) (hs : RdL w [bd] As srcs) (hs8 : B8L srcs) (hn : n ≤ 140737488351232) (hok : DotOk row srcs n) :
    Calls Try.prog 17 #[.pointer (some ⟨p, 0, none⟩), .slice Ar k kc, .slice As m mc, .slice (some ⟨bd, od, none⟩) n cd] w fun e w' => e = .returned (.int .i64 0) ∧ St w w' [bt bd (Wr.wr D od (sumL row srcs 0 n))] [] := by
  obtain ⟨T, x, hp⟩ := There.head hS
  obtain rfl : k = m := by rw [← hk, ← hm]; exact hok.1
  have b2 : k ≤ 140737488351232 := by have := hf.1; omega
  have HC := Lib.hid (sum_at (kc := kc) (mc := mc) (f := 0) hS hb hne hd ho hD8 hcd hk hr hro hr8 hm (Nat.le_refl _) hs (fun l hl => ⟨hs8 l hl, by rw [hok.2 l hl]; omega, hf.2 l hl⟩) hn (by omega) b2)
  have m0 := (hb _ hp).cell (i := 0) rfl
  have HS := Lib.hid hs; have HM := Lib.hid hm; have HOK := Lib.hid hok; have S0 := Lib.hid (St.start1 hd)
  clear hS hb hs hf hk hm hok hp hr hro hr8 hs8 hd ho hD8 hne
  go_enter Try.func17, Try.ntmps17
  go_wp2_with fail
  clear m0
  go_loop [28] (fun vi => ∃ i : Nat, i ≤ k ∧ vi = .int .i64 i) (fun vi => k - (intOf vi).toNat)
  case atStart => exact ⟨0, by omega, rfl⟩
  case round =>
    obtain ⟨i, hi, rfl⟩ := hrel
    by_cases hlt : i < k
    · obtain ⟨b4, o4, B4, d4, e4, x4, g4, r4, _⟩ := HS.out.at (i := i) (by rw [HM.out]; exact hlt)
      subst e4
      rw [HOK.out.2 _ (mem_getD (by rw [HM.out]; exact hlt))] at x4
      clear r4 g4
      have i1 : (i : Int) < (k : Int) := by omega
      go_wp2_with fail
      clear x4
      go_round
      case rel => exact ⟨i + 1, by omega, by go_num⟩
      case measure => simp [intOf]; omega
    · obtain rfl : i = k := by omega
      go_wp2_with fail
      refine HC.out.mono ?_
      rintro e w' ⟨rfl, hh⟩
      have HH := Lib.hid hh; clear hh
      go_wp2_with fail
      go_ret
      exact ⟨rfl, HH.out⟩

/-- What fits promises. -/
theorem fits_zero {rows srcs dsts : List (List Nat)} {f t : Int} (h : fitsE rows srcs dsts f t = 0) : LenOk rows srcs dsts ∧ 0 ≤ f ∧ f ≤ t ∧ t ≤ (lenM (srcs ++ dsts) : Int) := by
  unfold fitsE at h
  split at h
  · rename_i h1
    unfold rngE at h
    split at h
    · rename_i h2; exact ⟨h1, h2⟩
    · exact absurd h (by decide)
  · exact absurd h (by decide)

/-- The lists when the first i rows are done. -/
def appR (rows srcs L : List (List Nat)) (f k : Nat) : Nat → List (List Nat)
  | 0 => L
  | i + 1 => (appR rows srcs L f k i).set i (Wr.wr (L.getD i []) f (sumL (rows.getD i []) srcs f k))
def appL (rows srcs L : List (List Nat)) (f k : Nat) : List (List Nat) := appR rows srcs L f k L.length
theorem appR_length (rows srcs L : List (List Nat)) (f k : Nat) : ∀ i, (appR rows srcs L f k i).length = L.length
  | 0 => rfl
  | i + 1 => by rw [appR, List.length_set, appR_length rows srcs L f k i]
theorem appR_get (rows srcs L : List (List Nat)) (f k : Nat) : ∀ (i j : Nat), (appR rows srcs L f k i).getD j [] = if j < i ∧ j < L.length then Wr.wr (L.getD j []) f (sumL (rows.getD j []) srcs f k) else L.getD j []
  | 0, j => by rw [if_neg (by omega)]; rfl
  | i + 1, j => by
    rw [appR, List.getD_eq_getElem?_getD, List.getElem?_set]
    by_cases h : i = j
    · subst h
      rw [if_pos rfl, appR_length]
      by_cases h2 : i < L.length
      · rw [if_pos h2, if_pos (by omega)]; rfl
      · rw [if_neg h2, if_neg (by omega)]; simp [h2]
    · rw [if_neg h, ← List.getD_eq_getElem?_getD, appR_get rows srcs L f k i j]
      by_cases h2 : j < i ∧ j < L.length
      · rw [if_pos h2, if_pos (by omega)]
      · rw [if_neg h2, if_neg (by omega)]
theorem appL_get {rows srcs L : List (List Nat)} {f k j : Nat} (h : j < L.length) : (appL rows srcs L f k).getD j [] = Wr.wr (L.getD j []) f (sumL (rows.getD j []) srcs f k) := by
  unfold appL; rw [appR_get, if_pos ⟨h, h⟩]
theorem appL_length (rows srcs L : List (List Nat)) (f k : Nat) : (appL rows srcs L f k).length = L.length := appR_length _ _ _ _ _ _
theorem ents_b' {bs : List Nat} {L : List (List Nat)} (h : bs.length = L.length) : ∀ e ∈ ents bs L, e.b ∈ bs := fun e he => by
  have : e.b ∈ (ents bs L).map (·.b) := List.mem_map.2 ⟨e, he, rfl⟩
  rw [ents_b h] at this; exact this
theorem wr_nil (D : List Nat) (o : Nat) : Wr.wr D o [] = D := rfl
theorem wr_cut {D l : List Nat} {od f n : Nat} (hl : l.length = n) (h : 0 < n → od = f) : Wr.wr D od l = Wr.wr D f l := by
  rcases Nat.eq_zero_or_pos n with h0 | h0
  · have : l = [] := List.eq_nil_of_length_eq_zero (by omega)
    subst this; rfl
  · rw [h h0]

end Go.Proofs.Ytdlmkhlkgklkaaa.Sk

namespace Go.Proofs.Ytdlmkhlkgklkaaa.Sk
set_option linter.unusedSimpArgs false
set_option linter.unusedVariables false
open Go Go.RowKit Go.Proofs.Ytdlmkhlkgklkaaa Go.Proofs.Ytdlmkhlkgklkaaa.Mm Go.Proofs.Ytdlmkhlkgklkaaa.Gf Go.Proofs.Ytdlmkhlkgklkaaa.Wr Go.Proofs.Ytdlmkhlkgklkaaa.Nb Go.Proofs.Ytdlmkhlkgklkaaa.St

theorem same_len {X : List (List Nat)} (h : Same X) {l : List Nat} (hl : l ∈ X) : l.length = lenM X := h l hl
theorem appR_len {rows srcs L : List (List Nat)} {f k : Nat} (i : Nat) : (appR rows srcs L f k i).map (·.length) = L.map (·.length) := by
  apply List.ext_getElem?
  intro j
  have e := appR_length rows srcs L f k i
  rw [List.getElem?_map, List.getElem?_map]
  by_cases hj : j < L.length
  · have h1 : (appR rows srcs L f k i)[j]? = some ((appR rows srcs L f k i).getD j []) := by simp [show j < (appR rows srcs L f k i).length by omega]
    have h2 : L[j]? = some (L.getD j []) := by simp [hj]
    rw [h1, h2, appR_get]
    simp only [Option.map_some]
    split
    · rw [wr_length]
    · rfl
  · rw [List.getElem?_eq_none (by omega), List.getElem?_eq_none (by omega)]

end Go.Proofs.Ytdlmkhlkgklkaaa.Sk

namespace Go.Proofs.Ytdlmkhlkgklkaaa.Sk
set_option linter.unusedSimpArgs false
set_option linter.unusedVariables false
open Go Go.RowKit Go.Proofs.Ytdlmkhlkgklkaaa Go.Proofs.Ytdlmkhlkgklkaaa.Mm Go.Proofs.Ytdlmkhlkgklkaaa.Gf Go.Proofs.Ytdlmkhlkgklkaaa.Wr Go.Proofs.Ytdlmkhlkgklkaaa.Nb Go.Proofs.Ytdlmkhlkgklkaaa.St

/-- Is each list, within the span, the sum? -/
def Agr (rows srcs L : List (List Nat)) (f k : Nat) : Prop := ∀ r, r < L.length → ((L.getD r []).drop f).take k = sumL (rows.getD r []) srcs f k
instance (rows srcs L : List (List Nat)) (f k : Nat) : Decidable (Agr rows srcs L f k) := by unfold Agr; infer_instance

end Go.Proofs.Ytdlmkhlkgklkaaa.Sk

namespace Go.Proofs.Ytdlmkhlkgklkaaa.Sk
set_option linter.unusedSimpArgs false
set_option linter.unusedVariables false
open Go Go.RowKit Go.Proofs.Ytdlmkhlkgklkaaa Go.Proofs.Ytdlmkhlkgklkaaa.Mm Go.Proofs.Ytdlmkhlkgklkaaa.Gf Go.Proofs.Ytdlmkhlkgklkaaa.Wr Go.Proofs.Ytdlmkhlkgklkaaa.Nb Go.Proofs.Ytdlmkhlkgklkaaa.St

def SprOk (col diff : List Nat) (L : List (List Nat)) : Prop := col.length = L.length ∧ ∀ l ∈ L, l.length = diff.length
instance (col diff : List Nat) (L : List (List Nat)) : Decidable (SprOk col diff L) := by unfold SprOk; infer_instance
/-- What Spread refuses. -/
def sprE (col diff : List Nat) (L : List (List Nat)) (f t : Int) : Int := if SprOk col diff L then rngE f t diff.length else 6
theorem spr_zero {col diff : List Nat} {L : List (List Nat)} {f t : Int} (h : sprE col diff L f t = 0) : SprOk col diff L ∧ 0 ≤ f ∧ f ≤ t ∧ t ≤ (diff.length : Int) := by
  unfold sprE at h
  split at h
  · rename_i h1
    unfold rngE at h
    split at h
    · rename_i h2; exact ⟨h1, h2⟩
    · exact absurd h (by decide)
  · exact absurd h (by decide)
/-- One list with c times the difference added within the span. -/
def spr1 (c : Nat) (diff D : List Nat) (f k : Nat) : List Nat := Wr.wr D f ((List.range k).map fun u => D.getD (f + u) 0 ^^^ gm c (diff.getD (f + u) 0))
theorem spr1_length (c : Nat) (diff D : List Nat) (f k : Nat) : (spr1 c diff D f k).length = D.length := wr_length _ _ _
theorem spr1_cut {c : Nat} {diff D : List Nat} {od f k : Nat} (h : 0 < k → od = f) : Wr.wr D od ((List.range k).map fun u => D.getD (od + u) 0 ^^^ gm c (((diff.drop f).take k).getD u 0)) = spr1 c diff D f k := by
  rcases Nat.eq_zero_or_pos k with h0 | h0
  · subst h0; rfl
  · rw [h h0]
    unfold spr1
    congr 1
    apply List.map_congr_left
    intro u hu
    have hu' : u < k := by simpa using hu
    congr 2
    rw [List.getD_eq_getElem?_getD, List.getElem?_take, if_pos hu', List.getElem?_drop, ← List.getD_eq_getElem?_getD]
def sprR (col diff : List Nat) (L : List (List Nat)) (f k : Nat) : Nat → List (List Nat)
  | 0 => L
  | i + 1 => (sprR col diff L f k i).set i (spr1 (col.getD i 0) diff (L.getD i []) f k)
def sprL (col diff : List Nat) (L : List (List Nat)) (f k : Nat) : List (List Nat) := sprR col diff L f k L.length
theorem sprR_length (col diff : List Nat) (L : List (List Nat)) (f k : Nat) : ∀ i, (sprR col diff L f k i).length = L.length
  | 0 => rfl
  | i + 1 => by rw [sprR, List.length_set, sprR_length col diff L f k i]
theorem sprR_get (col diff : List Nat) (L : List (List Nat)) (f k : Nat) : ∀ (i j : Nat), (sprR col diff L f k i).getD j [] = if j < i ∧ j < L.length then spr1 (col.getD j 0) diff (L.getD j []) f k else L.getD j []
  | 0, j => by rw [if_neg (by omega)]; rfl
  | i + 1, j => by
    rw [sprR, List.getD_eq_getElem?_getD, List.getElem?_set]
    by_cases h : i = j
    · subst h
      rw [if_pos rfl, sprR_length]
      by_cases h2 : i < L.length
      · rw [if_pos h2, if_pos (by omega)]; rfl
      · rw [if_neg h2, if_neg (by omega)]; simp [h2]
    · rw [if_neg h, ← List.getD_eq_getElem?_getD, sprR_get col diff L f k i j]
      by_cases h2 : j < i ∧ j < L.length
      · rw [if_pos h2, if_pos (by omega)]
      · rw [if_neg h2, if_neg (by omega)]
theorem sprL_get {col diff : List Nat} {L : List (List Nat)} {f k j : Nat} (h : j < L.length) : (sprL col diff L f k).getD j [] = spr1 (col.getD j 0) diff (L.getD j []) f k := by
  unfold sprL; rw [sprR_get, if_pos ⟨h, h⟩]
theorem sprL_length (col diff : List Nat) (L : List (List Nat)) (f k : Nat) : (sprL col diff L f k).length = L.length := sprR_length _ _ _ _ _ _

end Go.Proofs.Ytdlmkhlkgklkaaa.Sk
