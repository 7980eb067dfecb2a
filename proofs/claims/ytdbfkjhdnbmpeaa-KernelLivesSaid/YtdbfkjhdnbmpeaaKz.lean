/- Layer 9: plain laws of spans: what Apply makes of lists, place by place; pieces; turned bytes. -/
import Derived.Test.YtdbfkjhdnbmpeaaKq

namespace Go.Proofs.Ytdbfkjhdnbmpeaa.Sk
set_option linter.unusedSimpArgs false
set_option linter.unusedVariables false
open Go Go.RowKit Go.Proofs.Ytdbfkjhdnbmpeaa Go.Proofs.Ytdbfkjhdnbmpeaa.Mm Go.Proofs.Ytdbfkjhdnbmpeaa.Gf Go.Proofs.Ytdbfkjhdnbmpeaa.Wr Go.Proofs.Ytdbfkjhdnbmpeaa.Nb Go.Proofs.Ytdbfkjhdnbmpeaa.St

theorem sumL_get {row : List Nat} {srcs : List (List Nat)} {f n t : Nat} (h : t < n) : (sumL row srcs f n).getD t 0 = smk row srcs (f + t) row.length := sumK_get h
theorem ext_getD {a b : List Nat} {n : Nat} (ha : a.length = n) (hb : b.length = n) (h : ∀ t, t < n → a.getD t 0 = b.getD t 0) : a = b := by
  apply List.ext_getElem (by rw [ha, hb])
  intro t h1 h2
  have := h t (by omega)
  simpa [h1, h2] using this
theorem smk_xs {row other : List Nat} {srcs : List (List Nat)} {t : Nat} (h8 : B8 row) (h8' : B8 other) (hl : row.length = other.length) : ∀ i, i ≤ row.length → smk (xs row other) srcs t i = smk row srcs t i ^^^ smk other srcs t i
  | 0, _ => by simp [smk]
  | i + 1, h => by
    rw [smk, smk, smk, smk_xs h8 h8' hl i (by omega), xs_get (by omega), gm_left _ (h8.get (by omega)) (h8'.get (by omega))]
    ac_rfl
theorem sum_xs {row other : List Nat} {srcs : List (List Nat)} {f n : Nat} (h8 : B8 row) (h8' : B8 other) (hl : row.length = other.length) : xs (sumL row srcs f n) (sumL other srcs f n) = sumL (xs row other) srcs f n := by
  refine ext_getD (n := n) (by rw [xs_length, sumL_length]) (sumL_length _ _ _ _) fun t ht => ?_
  rw [xs_get (by rw [sumL_length]; exact ht), sumL_get ht, sumL_get ht, sumL_get ht, xs_length, smk_xs h8 h8' hl _ (Nat.le_refl _), ← hl]
theorem sum_one {l : List Nat} {n : Nat} (hl : l.length = n) (h8 : B8 l) : sumL [1] [l] 0 n = l := by
  refine ext_getD (n := n) (sumL_length _ _ _ _) hl fun t ht => ?_
  rw [sumL_get ht, Nat.zero_add]
  show 0 ^^^ gm 1 (l.getD t 0) = _
  rw [Nat.zero_xor, one_gm (h8.get (by omega))]
theorem sum_two {x y : Nat} {l : List Nat} {n : Nat} (hl : l.length = n) (hx : x < 256) (hy : y < 256) : sumL [x, y] [l, l] 0 n = l.map (gm (x ^^^ y)) := by
  refine ext_getD (n := n) (sumL_length _ _ _ _) (by rw [List.length_map]; exact hl) fun t ht => ?_
  rw [sumL_get ht, Nat.zero_add]
  show (0 ^^^ gm x (l.getD t 0)) ^^^ gm y (l.getD t 0) = _
  rw [Nat.zero_xor, ← gm_left _ hx hy]
  simp [show t < l.length by omega]

section
variable {p j : Nat} {S M M1 M2 X : List Ent} {w0 w wA wB : World} {a n m : Nat} {D l : List Nat} {r1 r2 : Nat} {A' : Option Addr} {c' k : Nat} {row : List Nat} {srcs : List (List Nat)} {bs : List Nat} {G : List Ent}
theorem dotC' (SE : SetE p j S) (h : St w0 w [] (M1 ++ bt a D :: M2)) (hS : ∀ e ∈ S, e ∈ M1 ++ bt a D :: M2) (k1 : St w wA [] [bt r1 row]) (k2 : St wA wB [] (G ++ ents bs srcs)) (hc : CopyL A' m c' bs srcs G) (hD : D.length = n) (h8D : B8 D) (hk : row.length = k) (hr8 : B8 row) (hf : Fit srcs) (hs8 : B8L srcs) (hn : n ≤ 140737488351232) (hok : DotOk row srcs n) :
    Calls Try.prog 18 #[.pointer (some ⟨p, 0, none⟩), .slice (some ⟨r1, 0, none⟩) k k, .slice A' m c', .slice (some ⟨a, 0, none⟩) n n] wB fun e w' => e = .returned (.int .i64 0) ∧ St w0 w' [] (M1 ++ bt a (sumL row srcs 0 n) :: M2) := by
  have := dotC SE h hS k1 k2 hc hD h8D hk hr8 hf hs8 hn
  unfold dotE dotD at this
  rw [if_pos hok, if_pos (by rw [hD]; exact hok), hD] at this
  exact this
/-- Dot over one list (or a list twice) that was made for the call. -/
theorem dotL {q sb : Nat} {row : List Nat} {srcs : List (List Nat)} {bs : List Nat} {k m : Nat} (SE : SetE p j S) (h : St w0 w [] (X ++ (M1 ++ bt a D :: M2))) (hS : ∀ e ∈ S, e ∈ X ++ (M1 ++ bt a D :: M2)) (hD : D.length = n) (h8D : B8 D) (hk : row.length = k) (hrm : bt q row ∈ X) (hr8 : B8 row) (hbs : bs.length = srcs.length) (hsm : (⟨sb, 39, cellsV es (sds bs srcs)⟩ : Ent) ∈ X) (hE : ∀ e ∈ ents bs srcs, e ∈ X ++ (M1 ++ bt a D :: M2)) (ha : a ∉ bs) (hm : srcs.length = m) (hf : Fit srcs) (hs8 : B8L srcs) (hn : n ≤ 140737488351232) (hok : DotOk row srcs n) :
    Calls Try.prog 18 #[.pointer (some ⟨p, 0, none⟩), .slice (some ⟨q, 0, none⟩) k k, .slice (some ⟨sb, 0, none⟩) m m, .slice (some ⟨a, 0, none⟩) n n] w fun e w' => e = .returned (.int .i64 0) ∧ St w0 w' [] (M1 ++ bt a (sumL row srcs 0 n) :: M2) := by
  have hx : ∀ b ∈ [a], ∃ e ∈ M1 ++ bt a D :: M2, e.b = b := fun b hb => ⟨bt a D, by simp, by simp at hb; exact hb.symm⟩
  refine dotS SE h hS hD h8D hk (h.rdT hrm hx) hr8 hm hf (RdL.lit h hbs (List.mem_append_left _ hsm) hE ?_ ?_) hs8 hn hok
  · intro hb
    have := h.apart hsm (e' := bt a D) (by simp)
    simp at hb
    exact this hb
  · intro c hc hca
    simp at hca
    subst hca
    exact ha hc
end
theorem fits_lit {row : List Nat} {srcs : List (List Nat)} {D : List Nat} {n : Nat} (h1 : row.length = srcs.length) (hs : ∀ l ∈ srcs, l.length = n) (hD : D.length = n) : fitsE [row] srcs [D] 0 (n : Int) = 0 := by
  unfold fitsE
  have hsame : ∀ x ∈ srcs ++ [D], x.length = n := fun x hx => by
    rcases List.mem_append.1 hx with h | h
    · exact hs x h
    · have : x = D := by simpa using h
      rw [this]; exact hD
  have hlm : lenM (srcs ++ [D]) = n := hsame _ (mem_getD (by simp))
  rw [if_pos ⟨rfl, fun r hr => (by
    have e : r = row := (by simpa using hr)
    rw [e]; exact h1), fun x hx => by rw [hsame x hx]; exact hlm.symm⟩]
  unfold rngE
  rw [if_pos (by rw [hlm]; omega)]
theorem app_lit {row : List Nat} {srcs : List (List Nat)} {D : List Nat} {n : Nat} (h1 : row.length = srcs.length) (hs : ∀ l ∈ srcs, l.length = n) (hD : D.length = n) : appE [row] srcs [D] 0 (n : Int) = [sumL row srcs 0 n] := by
  unfold appE
  rw [if_pos (fits_lit h1 hs hD)]
  show [Wr.wr D 0 (sumL row srcs 0 ((n : Int) - 0).toNat)] = _
  rw [show ((n : Int) - 0).toNat = n by omega, wr_all _ _ (by rw [hD, sumL_length])]

section
variable {p j : Nat} {S M M1 M2 X : List Ent} {w0 w wA wB : World} {a n m : Nat} {D l : List Nat} {r1 sb1 sb2 : Nat} {A' : Option Addr} {c' k : Nat} {row : List Nat} {srcs : List (List Nat)} {bs : List Nat} {G : List Ent}
/-- Apply of one row over copies into one list. -/
theorem applyL (SE : SetE p j S) (h : St w0 w [] (X ++ (M1 ++ bt a D :: M2))) (hS : ∀ e ∈ S, e ∈ X ++ (M1 ++ bt a D :: M2)) (hr : bt r1 row ∈ X) (h1 : (⟨sb1, 39, cellsV es [⟨some ⟨r1, 0, none⟩, k, k⟩]⟩ : Ent) ∈ X) (hG : ∀ e ∈ G, e ∈ X) (hE : ∀ e ∈ ents bs srcs, e ∈ X) (hc : CopyL A' m c' bs srcs G) (h2 : (⟨sb2, 39, cellsV es [⟨some ⟨a, 0, none⟩, n, n⟩]⟩ : Ent) ∈ X)
    (hk : row.length = k) (hD : D.length = n) (h8r : B8 row) (h8D : B8 D) (hf : Fit srcs) (h8 : B8L srcs) (hkb : k ≤ 140737488351232) (hn : n ≤ 140737488351232) (hok : DotOk row srcs n) :
    Calls Try.prog 14 #[.pointer (some ⟨p, 0, none⟩), .slice (some ⟨sb1, 0, none⟩) 1 1, .slice A' m c', .slice (some ⟨sb2, 0, none⟩) 1 1, .agg #[.int .i64 0, .int .i64 (n : Int)]] w fun e w' => e = .returned (.int .i64 0) ∧ St w0 w' [] (M1 ++ bt a (sumL row srcs 0 n) :: M2) := by
  subst hk hD
  have hx : ∀ b ∈ [a], ∃ e ∈ M1 ++ bt a D :: M2, e.b = b := fun b hb => ⟨bt a D, by simp, by simp at hb; exact hb.symm⟩
  have hne : ∀ {e : Ent}, e ∈ X → e.b ∉ [a] := fun he hb => by
    have := h.apart he (e' := bt a D) (by simp)
    simp at hb; exact this hb
  have one : ∀ {l : List Nat}, B8 l → B8L [l] := fun h x hx => by
    have e : _ = _ := List.mem_singleton.1 hx
    rw [e]; exact h
  have := applyS (rows := [row]) (srcs := srcs) (L := [D]) (bs := [a]) (f := 0) (t := (D.length : Int)) (A1 := some ⟨sb1, 0, none⟩) (A2 := A') (A3 := some ⟨sb2, 0, none⟩) (c1 := 1) (c2 := c') (c3 := 1) (n1 := 1) (n2 := m) (n3 := 1) (M1 := M1) (M2 := M2) (X := X) SE h hS rfl hc.2.1.symm rfl ⟨by show 1 * 24 ≤ _; omega, fun l hl => by rw [List.mem_singleton.1 hl]; exact hkb⟩ hf ⟨by show 1 * 24 ≤ _; omega, fun l hl => by rw [List.mem_singleton.1 hl]; exact hn⟩ (one h8r) h8 (one h8D) rfl
    (RdL.lit (bs := [r1]) h rfl (List.mem_append_left _ h1) (fun e he => List.mem_append_left _ (by rw [List.mem_singleton.1 he]; exact hr)) (hne h1) (fun c hc => by rw [List.mem_singleton.1 hc]; exact hne hr)) (hc.rdT h hG hE hx) (h.rdV (List.mem_append_left _ h2)) (Off.some (hne h2))
  rw [fits_lit hok.1 hok.2 rfl, app_lit hok.1 hok.2 rfl] at this
  exact this
end

section
open Classical
/-- How often a stands in the list. -/
noncomputable def cnt (a : Ent) (l : List Ent) : Nat := List.count a l
noncomputable def cn (a b : Ent) : Nat := if b == a then 1 else 0
theorem cnt_nil (a : Ent) : cnt a [] = 0 := List.count_nil
theorem cnt_cons (a b : Ent) (l : List Ent) : cnt a (b :: l) = cn a b + cnt a l := by unfold cnt cn; rw [List.count_cons, Nat.add_comm]
theorem cnt_append (a : Ent) (l k : List Ent) : cnt a (l ++ k) = cnt a l + cnt a k := List.count_append
theorem perm_of {l k : List Ent} (h : ∀ a, cnt a l = cnt a k) : l.Perm k := List.perm_iff_count.2 h
end

end Go.Proofs.Ytdbfkjhdnbmpeaa.Sk

namespace Go.Proofs.Ytdbfkjhdnbmpeaa.Sk
set_option linter.unusedSimpArgs false
set_option linter.unusedVariables false
open Go Go.RowKit Go.Proofs.Ytdbfkjhdnbmpeaa Go.Proofs.Ytdbfkjhdnbmpeaa.Mm Go.Proofs.Ytdbfkjhdnbmpeaa.Gf Go.Proofs.Ytdbfkjhdnbmpeaa.Wr Go.Proofs.Ytdbfkjhdnbmpeaa.Nb Go.Proofs.Ytdbfkjhdnbmpeaa.St

theorem app1_get {row : List Nat} {srcs : List (List Nat)} {D : List Nat} {f k j : Nat} (h : f + k ≤ D.length) : (Wr.wr D f (sumL row srcs f k)).getD j 0 = if f ≤ j ∧ j < f + k then smk row srcs j row.length else D.getD j 0 := by
  rw [List.getD_eq_getElem?_getD, wr_get _ _ _ _ (by rw [sumL_length]; exact h), sumL_length]
  by_cases hj : f ≤ j ∧ j < f + k
  · rw [if_pos hj, if_pos hj, ← List.getD_eq_getElem?_getD, sumL_get (by omega), show f + (j - f) = j by omega]
  · rw [if_neg hj, if_neg hj, ← List.getD_eq_getElem?_getD]
theorem len_getD {L L' : List (List Nat)} (h : L'.map (·.length) = L.map (·.length)) (i : Nat) : (L'.getD i []).length = (L.getD i []).length := by
  have := congrArg (fun l => l.getD i 0) h
  simp only [List.getD_eq_getElem?_getD, List.getElem?_map] at this ⊢
  cases h1 : L'[i]? <;> cases h2 : L[i]? <;> simp_all
theorem len_len {L L' : List (List Nat)} (h : L'.map (·.length) = L.map (·.length)) : L'.length = L.length := by
  have := congrArg List.length h; simpa using this
theorem app_len {X L L' : List (List Nat)} (h : L'.map (·.length) = L.map (·.length)) : (X ++ L').map (·.length) = (X ++ L).map (·.length) := by
  rw [List.map_append, List.map_append, h]
theorem lenM_congr {L L' : List (List Nat)} (h : L'.map (·.length) = L.map (·.length)) : lenM L' = lenM L := len_getD h 0
theorem Same.congr {L L' : List (List Nat)} (h : L'.map (·.length) = L.map (·.length)) (hs : Same L) : Same L' := by
  intro x hx
  obtain ⟨i, hi, rfl⟩ := List.getElem_of_mem hx
  have e1 : L'[i] = L'.getD i [] := by simp [hi]
  have e := len_len h
  have e2 : L.getD i [] ∈ L := mem_getD (by omega)
  rw [e1, len_getD h i, len_getD h 0]
  exact hs _ e2
theorem fitsE_congr {rows srcs L L' : List (List Nat)} {f t : Int} (h : L'.map (·.length) = L.map (·.length)) : fitsE rows srcs L' f t = fitsE rows srcs L f t := by
  have hl : LenOk rows srcs L' ↔ LenOk rows srcs L := by
    unfold LenOk
    rw [len_len h]
    exact ⟨fun ⟨a, b, c⟩ => ⟨a, b, c.congr (app_len h.symm)⟩, fun ⟨a, b, c⟩ => ⟨a, b, c.congr (app_len h)⟩⟩
  unfold fitsE
  rw [lenM_congr (app_len h)]
  by_cases h1 : LenOk rows srcs L
  · rw [if_pos h1, if_pos (hl.2 h1)]
  · rw [if_neg h1, if_neg (fun k => h1 (hl.1 k))]
theorem ext_lists {L L' : List (List Nat)} (hl : L'.length = L.length) (h : ∀ i, i < L.length → L'.getD i [] = L.getD i []) : L' = L := by
  apply List.ext_getElem hl
  intro i h1 h2
  have := h i h2
  simpa [h1, h2] using this

/-- A span that fits, and a cut in it: both pieces fit. -/
theorem fits_piece {rows srcs L : List (List Nat)} {f t c d : Int} (h : fitsE rows srcs L f t = 0) (h1 : f ≤ c) (h2 : c ≤ d) (h3 : d ≤ t) : fitsE rows srcs L c d = 0 := by
  obtain ⟨g, g1, g2, g3⟩ := fits_zero h
  unfold fitsE
  rw [if_pos g]
  unfold rngE
  rw [if_pos (by omega)]
theorem fits_lens {rows srcs L : List (List Nat)} {f t : Int} (h : fitsE rows srcs L f t = 0) : ∀ i, i < L.length → t ≤ ((L.getD i []).length : Int) := by
  intro i hi
  obtain ⟨⟨_, _, g⟩, _, _, g3⟩ := fits_zero h
  have := g (L.getD i []) (List.mem_append_right _ (mem_getD hi))
  rw [this]; exact g3
/-- What stands at a place behind Apply. -/
theorem appE_get {rows srcs L : List (List Nat)} {f t : Int} (h : fitsE rows srcs L f t = 0) {i j : Nat} (hi : i < L.length) : ((appE rows srcs L f t).getD i []).getD j 0 = if f ≤ (j : Int) ∧ (j : Int) < t then smk (rows.getD i []) srcs j (rows.getD i []).length else (L.getD i []).getD j 0 := by
  obtain ⟨_, g1, g2, g3⟩ := fits_zero h
  have g4 := fits_lens h i hi
  obtain ⟨f, rfl⟩ := Int.eq_ofNat_of_zero_le g1
  obtain ⟨t, rfl⟩ := Int.eq_ofNat_of_zero_le (show 0 ≤ t by omega)
  unfold appE
  rw [if_pos h, show ((t : Int) - (f : Int)).toNat = t - f by omega, Int.toNat_natCast, appL_get hi, app1_get (by omega)]
  by_cases hj : f ≤ j ∧ j < t
  · rw [if_pos (by omega), if_pos (by omega)]
  · rw [if_neg (by omega), if_neg (by omega)]
theorem appE_length (rows srcs L : List (List Nat)) (f t : Int) : (appE rows srcs L f t).length = L.length := len_len appE_len
/-- Apply piece by piece, the second first. -/
theorem app_pieces {rows srcs L : List (List Nat)} {f t c : Int} (h : fitsE rows srcs L f t = 0) (h1 : f ≤ c) (h2 : c ≤ t) : appE rows srcs (appE rows srcs L c t) f c = appE rows srcs L f t := by
  have hc := fits_piece h h1 h2 (Int.le_refl _)
  have hf : fitsE rows srcs (appE rows srcs L c t) f c = 0 := by rw [fitsE_congr appE_len]; exact fits_piece h (Int.le_refl _) h1 h2
  refine ext_lists (by rw [appE_length, appE_length, appE_length]) fun i hi => ?_
  rw [appE_length] at hi
  refine ext_getD (n := (L.getD i []).length) (by rw [len_getD appE_len, len_getD appE_len]) (by rw [len_getD appE_len]) fun j hj => ?_
  rw [appE_get hf (by rw [appE_length]; exact hi), appE_get hc hi, appE_get h hi]
  by_cases g1 : f ≤ (j : Int) ∧ (j : Int) < c
  · rw [if_pos g1, if_pos (by omega)]
  · rw [if_neg g1]
    by_cases g2 : c ≤ (j : Int) ∧ (j : Int) < t
    · rw [if_pos g2, if_pos (by omega)]
    · rw [if_neg g2, if_neg (by omega)]
/-- Behind Apply, Agrees says yes. -/
theorem agr_app {rows srcs L : List (List Nat)} {f t : Int} (h : fitsE rows srcs L f t = 0) : agrE rows srcs (appE rows srcs L f t) f t = true := by
  obtain ⟨_, g1, g2, g3⟩ := fits_zero h
  unfold agrE
  rw [fitsE_congr appE_len, if_pos h, decide_eq_true_eq]
  intro r hr
  rw [appE_length] at hr
  have g4 := fits_lens h r hr
  refine ext_getD (n := (t - f).toNat) (by rw [List.length_take, List.length_drop, len_getD appE_len]; omega) (sumL_length _ _ _ _) fun j hj => ?_
  rw [sumL_get hj]
  have e : ((((appE rows srcs L f t).getD r []).drop f.toNat).take (t - f).toNat).getD j 0 = ((appE rows srcs L f t).getD r []).getD (f.toNat + j) 0 := by
    rw [List.getD_eq_getElem?_getD, List.getElem?_take, if_pos hj, List.getElem?_drop, ← List.getD_eq_getElem?_getD]
  rw [e, appE_get h hr, if_pos (by omega)]
/-- Agrees, place by place. -/
theorem agr_iff {rows srcs L : List (List Nat)} {f t : Int} (h : fitsE rows srcs L f t = 0) : agrE rows srcs L f t = true ↔ ∀ r j : Nat, r < L.length → f ≤ (j : Int) → (j : Int) < t → (L.getD r []).getD j 0 = smk (rows.getD r []) srcs j (rows.getD r []).length := by
  obtain ⟨_, g1, g2, g3⟩ := fits_zero h
  unfold agrE
  rw [if_pos h, decide_eq_true_eq]
  have e : ∀ r j : Nat, j < (t - f).toNat → (((L.getD r []).drop f.toNat).take (t - f).toNat).getD j 0 = (L.getD r []).getD (f.toNat + j) 0 := fun r j hj => by
    rw [List.getD_eq_getElem?_getD, List.getElem?_take, if_pos hj, List.getElem?_drop, ← List.getD_eq_getElem?_getD]
  constructor
  · intro ha r j hr h1 h2
    have := congrArg (fun l => l.getD (j - f.toNat) 0) (ha r hr)
    rw [e r _ (by omega), sumL_get (by omega), show f.toNat + (j - f.toNat) = j by omega] at this
    exact this
  · intro ha r hr
    have g4 := fits_lens h r hr
    refine ext_getD (n := (t - f).toNat) (by rw [List.length_take, List.length_drop]; omega) (sumL_length _ _ _ _) fun j hj => ?_
    rw [e r j hj, sumL_get hj]
    exact ha r (f.toNat + j) hr (by omega) (by omega)
/-- One byte of the sums turned: told within the span, and only there. -/
theorem agr_turned {rows srcs L : List (List Nat)} {f t : Int} {r p b : Nat} (h : fitsE rows srcs L f t = 0) (hr : r < L.length) (hp : p < (L.getD r []).length) (hb : b ≠ 0) :
    agrE rows srcs ((appE rows srcs L f t).set r (((appE rows srcs L f t).getD r []).set p (((appE rows srcs L f t).getD r []).getD p 0 ^^^ b))) f t = decide (¬ (f ≤ (p : Int) ∧ (p : Int) < t)) := by
  have hA := (agr_iff (by rw [fitsE_congr appE_len]; exact h)).1 (agr_app h)
  generalize hY : appE rows srcs L f t = Y at *
  have hYl : Y.map (·.length) = L.map (·.length) := by rw [← hY]; exact appE_len
  have hr' : r < Y.length := by rw [len_len hYl]; exact hr
  have hp' : p < (Y.getD r []).length := by rw [len_getD hYl]; exact hp
  have hSl : (Y.set r ((Y.getD r []).set p ((Y.getD r []).getD p 0 ^^^ b))).map (·.length) = Y.map (·.length) := map_len_set (by rw [List.length_set])
  have hF : fitsE rows srcs (Y.set r ((Y.getD r []).set p ((Y.getD r []).getD p 0 ^^^ b))) f t = 0 := by rw [fitsE_congr hSl, fitsE_congr hYl]; exact h
  have hg : ∀ i j : Nat, ((Y.set r ((Y.getD r []).set p ((Y.getD r []).getD p 0 ^^^ b))).getD i []).getD j 0 = if i = r ∧ j = p then (Y.getD r []).getD p 0 ^^^ b else (Y.getD i []).getD j 0 := by
    intro i j
    by_cases hi : r = i
    · subst hi
      have e1 : (Y.set r ((Y.getD r []).set p ((Y.getD r []).getD p 0 ^^^ b))).getD r [] = (Y.getD r []).set p ((Y.getD r []).getD p 0 ^^^ b) := by
        rw [List.getD_eq_getElem?_getD, List.getElem?_set, if_pos rfl, if_pos hr']; rfl
      rw [e1, List.getD_eq_getElem?_getD, List.getElem?_set]
      by_cases hj : p = j
      · subst hj
        rw [if_pos rfl, if_pos hp', if_pos ⟨rfl, rfl⟩]; rfl
      · rw [if_neg hj, if_neg (fun h => hj h.2.symm), ← List.getD_eq_getElem?_getD]
    · have e1 : (Y.set r ((Y.getD r []).set p ((Y.getD r []).getD p 0 ^^^ b))).getD i [] = Y.getD i [] := by
        rw [List.getD_eq_getElem?_getD, List.getElem?_set, if_neg hi, ← List.getD_eq_getElem?_getD]
      rw [e1, if_neg (fun h => hi h.1.symm)]
  by_cases hin : f ≤ (p : Int) ∧ (p : Int) < t
  · rw [decide_eq_false (fun h => h hin)]
    rw [Bool.eq_false_iff]
    intro hc
    have := (agr_iff hF).1 hc r p (by rw [List.length_set]; exact hr') hin.1 hin.2
    rw [hg, if_pos ⟨rfl, rfl⟩, ← hA r p hr' hin.1 hin.2] at this
    apply hb
    have h2 : (Y.getD r []).getD p 0 ^^^ ((Y.getD r []).getD p 0 ^^^ b) = (Y.getD r []).getD p 0 ^^^ (Y.getD r []).getD p 0 := by rw [this]
    rw [← Nat.xor_assoc, Nat.xor_self, Nat.zero_xor] at h2
    exact h2
  · rw [decide_eq_true hin]
    refine (agr_iff hF).2 fun i j hi h1 h2 => ?_
    rw [List.length_set] at hi
    rw [hg, if_neg (fun ⟨_, h⟩ => hin (by rw [← h]; exact ⟨h1, h2⟩))]
    exact hA i j hi h1 h2

end Go.Proofs.Ytdbfkjhdnbmpeaa.Sk
