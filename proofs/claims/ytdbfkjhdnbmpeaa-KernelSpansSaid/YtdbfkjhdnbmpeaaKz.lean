/- Layer 9: plain laws of spans: what Apply makes of lists, place by place; pieces; turned bytes. -/
import Derived.Test.YtdbfkjhdnbmpeaaKp
namespace Go.Proofs.Ytdbfkjhdnbmpeaa.Sk
set_option linter.unusedSimpArgs false
set_option linter.unusedVariables false
open Go Go.RowKit Go.Proofs.Ytdbfkjhdnbmpeaa Go.Proofs.Ytdbfkjhdnbmpeaa.Mm Go.Proofs.Ytdbfkjhdnbmpeaa.Gf Go.Proofs.Ytdbfkjhdnbmpeaa.Wr Go.Proofs.Ytdbfkjhdnbmpeaa.Nb Go.Proofs.Ytdbfkjhdnbmpeaa.St

theorem app1_get {row : List Nat} {srcs : List (List Nat)} {D : List Nat} {f k j : Nat} (h : f + k ≤ D.length) : (Wr.wr D f (sumL row srcs f k)).getD j 0 = if f ≤ j ∧ j < f + k then smk row srcs j row.length else D.getD j 0 := by
  rw [List.getD_eq_getElem?_getD, wr_get _ _ _ _ (by rw [sumL_length]; exact h), sumL_length]
  by_cases hj : f ≤ j ∧ j < f + k
  · rw [if_pos hj, if_pos hj, ← List.getD_eq_getElem?_getD, sumL_get (by omega), show f + (j - f) = j by omega]
  · rw [if_neg hj, if_neg hj, ← List.getD_eq_getElem?_getD]
theorem len_getD {L L' : List (List Nat)} (h : L'.map (·.length) = L.map (·.length)) (i : Nat) : (L'.getD i []).length = (L.getD i []).length := by
  have := congrArg (fun l => l.getD i 0) h
  simp only [List.getD_eq_getElem?_getD, List.getElem?_map] at this ⊢
  cases h1 : L'[i]? <;> cases h2 : L[i]? <;> simp_all
theorem len_len {L L' : List (List Nat)} (h : L'.map (·.length) = L.map (·.length)) : L'.length = L.length := by
  have := congrArg List.length h; simpa using this
theorem app_len {X L L' : List (List Nat)} (h : L'.map (·.length) = L.map (·.length)) : (X ++ L').map (·.length) = (X ++ L).map (·.length) := by
  rw [List.map_append, List.map_append, h]
theorem lenM_congr {L L' : List (List Nat)} (h : L'.map (·.length) = L.map (·.length)) : lenM L' = lenM L := len_getD h 0
theorem Same.congr {L L' : List (List Nat)} (h : L'.map (·.length) = L.map (·.length)) (hs : Same L) : Same L' := by
  intro x hx
  obtain ⟨i, hi, rfl⟩ := List.getElem_of_mem hx
  have e1 : L'[i] = L'.getD i [] := by simp [hi]
  have e := len_len h
  have e2 : L.getD i [] ∈ L := mem_getD (by omega)
  rw [e1, len_getD h i, len_getD h 0]
  exact hs _ e2
theorem fitsE_congr {rows srcs L L' : List (List Nat)} {f t : Int} (h : L'.map (·.length) = L.map (·.length)) : fitsE rows srcs L' f t = fitsE rows srcs L f t := by
  have hl : LenOk rows srcs L' ↔ LenOk rows srcs L := by
    unfold LenOk
    rw [len_len h]
    exact ⟨fun ⟨a, b, c⟩ => ⟨a, b, c.congr (app_len h.symm)⟩, fun ⟨a, b, c⟩ => ⟨a, b, c.congr (app_len h)⟩⟩
  unfold fitsE
  rw [lenM_congr (app_len h)]
  by_cases h1 : LenOk rows srcs L
  · rw [if_pos h1, if_pos (hl.2 h1)]
  · rw [if_neg h1, if_neg (fun k => h1 (hl.1 k))]
theorem ext_lists {L L' : List (List Nat)} (hl : L'.length = L.length) (h : ∀ i, i < L.length → L'.getD i [] = L.getD i []) : L' = L := by
  apply List.ext_getElem hl
  intro i h1 h2
  have := h i h2
  simpa [h1, h2] using this

/-- A span that fits, and a cut in it: both pieces fit. -/
theorem fits_piece {rows srcs L : List (List Nat)} {f t c d : Int} (h : fitsE rows srcs L f t = 0) (h1 : f ≤ c) (h2 : c ≤ d) (h3 : d ≤ t) : fitsE rows srcs L c d = 0 := by
  obtain ⟨g, g1, g2, g3⟩ := fits_zero h
  unfold fitsE
  rw [if_pos g]
  unfold rngE
  rw [if_pos (by omega)]
theorem fits_lens {rows srcs L : List (List Nat)} {f t : Int} (h : fitsE rows srcs L f t = 0) : ∀ i, i < L.length → t ≤ ((L.getD i []).length : Int) := by
  intro i hi
  obtain ⟨⟨_, _, g⟩, _, _, g3⟩ := fits_zero h
  have := g (L.getD i []) (List.mem_append_right _ (mem_getD hi))
  rw [this]; exact g3
/-- What stands at a place behind Apply. -/
theorem appE_get {rows srcs L : List (List Nat)} {f t : Int} (h : fitsE rows srcs L f t = 0) {i j : Nat} (hi : i < L.length) : ((appE rows srcs L f t).getD i []).getD j 0 = if f ≤ (j : Int) ∧ (j : Int) < t then smk (rows.getD i []) srcs j (rows.getD i []).length else (L.getD i []).getD j 0 := by
  obtain ⟨_, g1, g2, g3⟩ := fits_zero h
  have g4 := fits_lens h i hi
  obtain ⟨f, rfl⟩ := Int.eq_ofNat_of_zero_le g1
  obtain ⟨t, rfl⟩ := Int.eq_ofNat_of_zero_le (show 0 ≤ t by omega)
  unfold appE
  rw [if_pos h, show ((t : Int) - (f : Int)).toNat = t - f by omega, Int.toNat_natCast, appL_get hi, app1_get (by omega)]
  by_cases hj : f ≤ j ∧ j < t
  · rw [if_pos (by omega), if_pos (by omega)]
  · rw [if_neg (by omega), if_neg (by omega)]
theorem appE_length (rows srcs L : List (List Nat)) (f t : Int) : (appE rows srcs L f t).length = L.length := len_len appE_len
/-- Apply piece by piece, the second first. -/
theorem app_pieces {rows srcs L : List (List Nat)} {f t c : Int} (h : fitsE rows srcs L f t = 0) (h1 : f ≤ c) (h2 : c ≤ t) : appE rows srcs (appE rows srcs L c t) f c = appE rows srcs L f t := by
  have hc := fits_piece h h1 h2 (Int.le_refl _)
  have hf : fitsE rows srcs (appE rows srcs L c t) f c = 0 := by rw [fitsE_congr appE_len]; exact fits_piece h (Int.le_refl _) h1 h2
  refine ext_lists (by rw [appE_length, appE_length, appE_length]) fun i hi => ?_
  rw [appE_length] at hi
  refine ext_getD (n := (L.getD i []).length) (by rw [len_getD appE_len, len_getD appE_len]) (by rw [len_getD appE_len]) fun j hj => ?_
  rw [appE_get hf (by rw [appE_length]; exact hi), appE_get hc hi, appE_get h hi]
  by_cases g1 : f ≤ (j : Int) ∧ (j : Int) < c
  · rw [if_pos g1, if_pos (by omega)]
  · rw [if_neg g1]
    by_cases g2 : c ≤ (j : Int) ∧ (j : Int) < t
    · rw [if_pos g2, if_pos (by omega)]
    · rw [if_neg g2, if_neg (by omega)]
/-- Behind Apply, Agrees says yes. -/
theorem agr_app {rows srcs L : List (List Nat)} {f t : Int} (h : fitsE rows srcs L f t = 0) : agrE rows srcs (appE rows srcs L f t) f t = true := by
  obtain ⟨_, g1, g2, g3⟩ := fits_zero h
  unfold agrE
  rw [fitsE_congr appE_len, if_pos h, decide_eq_true_eq]
  intro r hr
  rw [appE_length] at hr
  have g4 := fits_lens h r hr
  refine ext_getD (n := (t - f).toNat) (by rw [List.length_take, List.length_drop, len_getD appE_len]; omega) (sumL_length _ _ _ _) fun j hj => ?_
  rw [sumL_get hj]
  have e : ((((appE rows srcs L f t).getD r []).drop f.toNat).take (t - f).toNat).getD j 0 = ((appE rows srcs L f t).getD r []).getD (f.toNat + j) 0 := by
    rw [List.getD_eq_getElem?_getD, List.getElem?_take, if_pos hj, List.getElem?_drop, ← List.getD_eq_getElem?_getD]
  rw [e, appE_get h hr, if_pos (by omega)]
/-- Agrees, place by place. -/
theorem agr_iff {rows srcs L : List (List Nat)} {f t : Int} (h : fitsE rows srcs L f t = 0) : agrE rows srcs L f t = true ↔ ∀ r j : Nat, r < L.length → f ≤ (j : Int) → (j : Int) < t → (L.getD r []).getD j 0 = smk (rows.getD r []) srcs j (rows.getD r []).length := by
  obtain ⟨_, g1, g2, g3⟩ := fits_zero h
  unfold agrE
  rw [if_pos h, decide_eq_true_eq]
  have e : ∀ r j : Nat, j < (t - f).toNat → (((L.getD r []).drop f.toNat).take (t - f).toNat).getD j 0 = (L.getD r []).getD (f.toNat + j) 0 := fun r j hj => by
    rw [List.getD_eq_getElem?_getD, List.getElem?_take, if_pos hj, List.getElem?_drop, ← List.getD_eq_getElem?_getD]
  constructor
  · intro ha r j hr h1 h2
    have := congrArg (fun l => l.getD (j - f.toNat) 0) (ha r hr)
    rw [e r _ (by omega), sumL_get (by omega), show f.toNat + (j - f.toNat) = j by omega] at this
    exact this
  · intro ha r hr
    have g4 := fits_lens h r hr
    refine ext_getD (n := (t - f).toNat) (by rw [List.length_take, List.length_drop]; omega) (sumL_length _ _ _ _) fun j hj => ?_
    rw [e r j hj, sumL_get hj]
    exact ha r (f.toNat + j) hr (by omega) (by omega)
/-- One byte of the sums turned: told within the span, and only there. -/
theorem agr_turned {rows srcs L : List (List Nat)} {f t : Int} {r p b : Nat} (h : fitsE rows srcs L f t = 0) (hr : r < L.length) (hp : p < (L.getD r []).length) (hb : b ≠ 0) :
    agrE rows srcs ((appE rows srcs L f t).set r (((appE rows srcs L f t).getD r []).set p (((appE rows srcs L f t).getD r []).getD p 0 ^^^ b))) f t = decide (¬ (f ≤ (p : Int) ∧ (p : Int) < t)) := by
  have hA := (agr_iff (by rw [fitsE_congr appE_len]; exact h)).1 (agr_app h)
  generalize hY : appE rows srcs L f t = Y at *
  have hYl : Y.map (·.length) = L.map (·.length) := by rw [← hY]; exact appE_len
  have hr' : r < Y.length := by rw [len_len hYl]; exact hr
  have hp' : p < (Y.getD r []).length := by rw [len_getD hYl]; exact hp
  have hSl : (Y.set r ((Y.getD r []).set p ((Y.getD r []).getD p 0 ^^^ b))).map (·.length) = Y.map (·.length) := map_len_set (by rw [List.length_set])
  have hF : fitsE rows srcs (Y.set r ((Y.getD r []).set p ((Y.getD r []).getD p 0 ^^^ b))) f t = 0 := by rw [fitsE_congr hSl, fitsE_congr hYl]; exact h
  have hg : ∀ i j : Nat, ((Y.set r ((Y.getD r []).set p ((Y.getD r []).getD p 0 ^^^ b))).getD i []).getD j 0 = if i = r ∧ j = p then (Y.getD r []).getD p 0 ^^^ b else (Y.getD i []).getD j 0 := by
    intro i j
    by_cases hi : r = i
    · subst hi
      have e1 : (Y.set r ((Y.getD r []).set p ((Y.getD r []).getD p 0 ^^^ b))).getD r [] = (Y.getD r []).set p ((Y.getD r []).getD p 0 ^^^ b) := by
        rw [List.getD_eq_getElem?_getD, List.getElem?_set, if_pos rfl, if_pos hr']; rfl
      rw [e1, List.getD_eq_getElem?_getD, List.getElem?_set]
      by_cases hj : p = j
      · subst hj
        rw [if_pos rfl, if_pos hp', if_pos ⟨rfl, rfl⟩]; rfl
      · rw [if_neg hj, if_neg (fun h => hj h.2.symm), ← List.getD_eq_getElem?_getD]
    · have e1 : (Y.set r ((Y.getD r []).set p ((Y.getD r []).getD p 0 ^^^ b))).getD i [] = Y.getD i [] := by
        rw [List.getD_eq_getElem?_getD, List.getElem?_set, if_neg hi, ← List.getD_eq_getElem?_getD]
      rw [e1, if_neg (fun h => hi h.1.symm)]
  by_cases hin : f ≤ (p : Int) ∧ (p : Int) < t
  · rw [decide_eq_false (fun h => h hin)]
    rw [Bool.eq_false_iff]
    intro hc
    have := (agr_iff hF).1 hc r p (by rw [List.length_set]; exact hr') hin.1 hin.2
    rw [hg, if_pos ⟨rfl, rfl⟩, ← hA r p hr' hin.1 hin.2] at this
    apply hb
    have h2 : (Y.getD r []).getD p 0 ^^^ ((Y.getD r []).getD p 0 ^^^ b) = (Y.getD r []).getD p 0 ^^^ (Y.getD r []).getD p 0 := by rw [this]
    rw [← Nat.xor_assoc, Nat.xor_self, Nat.zero_xor] at h2
    exact h2
  · rw [decide_eq_true hin]
    refine (agr_iff hF).2 fun i j hi h1 h2 => ?_
    rw [List.length_set] at hi
    rw [hg, if_neg (fun ⟨_, h⟩ => hin (by rw [← h]; exact ⟨h1, h2⟩))]
    exact hA i j hi h1 h2

end Go.Proofs.Ytdbfkjhdnbmpeaa.Sk
