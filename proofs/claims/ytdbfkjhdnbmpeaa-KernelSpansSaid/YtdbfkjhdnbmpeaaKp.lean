/- Layer 9: plain laws of sums of products. -/
import Derived.Test.YtdbfkjhdnbmpeaaKq
namespace Go.Proofs.Ytdbfkjhdnbmpeaa.Sk
set_option linter.unusedSimpArgs false
set_option linter.unusedVariables false
open Go Go.RowKit Go.Proofs.Ytdbfkjhdnbmpeaa Go.Proofs.Ytdbfkjhdnbmpeaa.Mm Go.Proofs.Ytdbfkjhdnbmpeaa.Gf Go.Proofs.Ytdbfkjhdnbmpeaa.Wr Go.Proofs.Ytdbfkjhdnbmpeaa.Nb Go.Proofs.Ytdbfkjhdnbmpeaa.St

theorem sumL_get {row : List Nat} {srcs : List (List Nat)} {f n t : Nat} (h : t < n) : (sumL row srcs f n).getD t 0 = smk row srcs (f + t) row.length := sumK_get h
theorem ext_getD {a b : List Nat} {n : Nat} (ha : a.length = n) (hb : b.length = n) (h : ∀ t, t < n → a.getD t 0 = b.getD t 0) : a = b := by
  apply List.ext_getElem (by rw [ha, hb])
  intro t h1 h2
  have := h t (by omega)
  simpa [h1, h2] using this
theorem smk_xs {row other : List Nat} {srcs : List (List Nat)} {t : Nat} (h8 : B8 row) (h8' : B8 other) (hl : row.length = other.length) : ∀ i, i ≤ row.length → smk (xs row other) srcs t i = smk row srcs t i ^^^ smk other srcs t i
  | 0, _ => by simp [smk]
  | i + 1, h => by
    rw [smk, smk, smk, smk_xs h8 h8' hl i (by omega), xs_get (by omega), gm_left _ (h8.get (by omega)) (h8'.get (by omega))]
    ac_rfl
theorem sum_xs {row other : List Nat} {srcs : List (List Nat)} {f n : Nat} (h8 : B8 row) (h8' : B8 other) (hl : row.length = other.length) : xs (sumL row srcs f n) (sumL other srcs f n) = sumL (xs row other) srcs f n := by
  refine ext_getD (n := n) (by rw [xs_length, sumL_length]) (sumL_length _ _ _ _) fun t ht => ?_
  rw [xs_get (by rw [sumL_length]; exact ht), sumL_get ht, sumL_get ht, sumL_get ht, xs_length, smk_xs h8 h8' hl _ (Nat.le_refl _), ← hl]
theorem sum_one {l : List Nat} {n : Nat} (hl : l.length = n) (h8 : B8 l) : sumL [1] [l] 0 n = l := by
  refine ext_getD (n := n) (sumL_length _ _ _ _) hl fun t ht => ?_
  rw [sumL_get ht, Nat.zero_add]
  show 0 ^^^ gm 1 (l.getD t 0) = _
  rw [Nat.zero_xor, one_gm (h8.get (by omega))]
theorem sum_two {x y : Nat} {l : List Nat} {n : Nat} (hl : l.length = n) (hx : x < 256) (hy : y < 256) : sumL [x, y] [l, l] 0 n = l.map (gm (x ^^^ y)) := by
  refine ext_getD (n := n) (sumL_length _ _ _ _) (by rw [List.length_map]; exact hl) fun t ht => ?_
  rw [sumL_get ht, Nat.zero_add]
  show (0 ^^^ gm x (l.getD t 0)) ^^^ gm y (l.getD t 0) = _
  rw [Nat.zero_xor, ← gm_left _ hx hy]
  simp [show t < l.length by omega]

section
variable {p j : Nat} {S M M1 M2 X : List Ent} {w0 w wA wB : World} {a n m : Nat} {D l : List Nat} {r1 r2 : Nat} {A' : Option Addr} {c' k : Nat} {row : List Nat} {srcs : List (List Nat)} {bs : List Nat} {G : List Ent}
theorem dotC' (SE : SetE p j S) (h : St w0 w [] (M1 ++ bt a D :: M2)) (hS : ∀ e ∈ S, e ∈ M1 ++ bt a D :: M2) (k1 : St w wA [] [bt r1 row]) (k2 : St wA wB [] (G ++ ents bs srcs)) (hc : CopyL A' m c' bs srcs G) (hD : D.length = n) (h8D : B8 D) (hk : row.length = k) (hr8 : B8 row) (hf : Fit srcs) (hs8 : B8L srcs) (hn : n ≤ 140737488351232) (hok : DotOk row srcs n) :
    Calls Try.prog 18 #[.pointer (some ⟨p, 0, none⟩), .slice (some ⟨r1, 0, none⟩) k k, .slice A' m c', .slice (some ⟨a, 0, none⟩) n n] wB fun e w' => e = .returned (.int .i64 0) ∧ St w0 w' [] (M1 ++ bt a (sumL row srcs 0 n) :: M2) := by
  have := dotC SE h hS k1 k2 hc hD h8D hk hr8 hf hs8 hn
  unfold dotE dotD at this
  rw [if_pos hok, if_pos (by rw [hD]; exact hok), hD] at this
  exact this
/-- Dot over one list (or a list twice) that was made for the call. -/
theorem dotL {q sb : Nat} {row : List Nat} {srcs : List (List Nat)} {bs : List Nat} {k m : Nat} (SE : SetE p j S) (h : St w0 w [] (X ++ (M1 ++ bt a D :: M2))) (hS : ∀ e ∈ S, e ∈ X ++ (M1 ++ bt a D :: M2)) (hD : D.length = n) (h8D : B8 D) (hk : row.length = k) (hrm : bt q row ∈ X) (hr8 : B8 row) (hbs : bs.length = srcs.length) (hsm : (⟨sb, 39, cellsV es (sds bs srcs)⟩ : Ent) ∈ X) (hE : ∀ e ∈ ents bs srcs, e ∈ X ++ (M1 ++ bt a D :: M2)) (ha : a ∉ bs) (hm : srcs.length = m) (hf : Fit srcs) (hs8 : B8L srcs) (hn : n ≤ 140737488351232) (hok : DotOk row srcs n) :
    Calls Try.prog 18 #[.pointer (some ⟨p, 0, none⟩), .slice (some ⟨q, 0, none⟩) k k, .slice (some ⟨sb, 0, none⟩) m m, .slice (some ⟨a, 0, none⟩) n n] w fun e w' => e = .returned (.int .i64 0) ∧ St w0 w' [] (M1 ++ bt a (sumL row srcs 0 n) :: M2) := by
  have hx : ∀ b ∈ [a], ∃ e ∈ M1 ++ bt a D :: M2, e.b = b := fun b hb => ⟨bt a D, by simp, by simp at hb; exact hb.symm⟩
  refine dotS SE h hS hD h8D hk (h.rdT hrm hx) hr8 hm hf (RdL.lit h hbs (List.mem_append_left _ hsm) hE ?_ ?_) hs8 hn hok
  · intro hb
    have := h.apart hsm (e' := bt a D) (by simp)
    simp at hb
    exact this hb
  · intro c hc hca
    simp at hca
    subst hca
    exact ha hc
end
theorem fits_lit {row : List Nat} {srcs : List (List Nat)} {D : List Nat} {n : Nat} (h1 : row.length = srcs.length) (hs : ∀ l ∈ srcs, l.length = n) (hD : D.length = n) : fitsE [row] srcs [D] 0 (n : Int) = 0 := by
  unfold fitsE
  have hsame : ∀ x ∈ srcs ++ [D], x.length = n := fun x hx => by
    rcases List.mem_append.1 hx with h | h
    · exact hs x h
    · have : x = D := by simpa using h
      rw [this]; exact hD
  have hlm : lenM (srcs ++ [D]) = n := hsame _ (mem_getD (by simp))
  rw [if_pos ⟨rfl, fun r hr => (by
    have e : r = row := (by simpa using hr)
    rw [e]; exact h1), fun x hx => by rw [hsame x hx]; exact hlm.symm⟩]
  unfold rngE
  rw [if_pos (by rw [hlm]; omega)]
theorem app_lit {row : List Nat} {srcs : List (List Nat)} {D : List Nat} {n : Nat} (h1 : row.length = srcs.length) (hs : ∀ l ∈ srcs, l.length = n) (hD : D.length = n) : appE [row] srcs [D] 0 (n : Int) = [sumL row srcs 0 n] := by
  unfold appE
  rw [if_pos (fits_lit h1 hs hD)]
  show [Wr.wr D 0 (sumL row srcs 0 ((n : Int) - 0).toNat)] = _
  rw [show ((n : Int) - 0).toNat = n by omega, wr_all _ _ (by rw [hD, sumL_length])]

section
variable {p j : Nat} {S M M1 M2 X : List Ent} {w0 w wA wB : World} {a n m : Nat} {D l : List Nat} {r1 sb1 sb2 : Nat} {A' : Option Addr} {c' k : Nat} {row : List Nat} {srcs : List (List Nat)} {bs : List Nat} {G : List Ent}
/-- Apply of one row over copies into one list. -/
theorem applyL (SE : SetE p j S) (h : St w0 w [] (X ++ (M1 ++ bt a D :: M2))) (hS : ∀ e ∈ S, e ∈ X ++ (M1 ++ bt a D :: M2)) (hr : bt r1 row ∈ X) (h1 : (⟨sb1, 39, cellsV es [⟨some ⟨r1, 0, none⟩, k, k⟩]⟩ : Ent) ∈ X) (hG : ∀ e ∈ G, e ∈ X) (hE : ∀ e ∈ ents bs srcs, e ∈ X) (hc : CopyL A' m c' bs srcs G) (h2 : (⟨sb2, 39, cellsV es [⟨some ⟨a, 0, none⟩, n, n⟩]⟩ : Ent) ∈ X)
    (hk : row.length = k) (hD : D.length = n) (h8r : B8 row) (h8D : B8 D) (hf : Fit srcs) (h8 : B8L srcs) (hkb : k ≤ 140737488351232) (hn : n ≤ 140737488351232) (hok : DotOk row srcs n) :
    Calls Try.prog 14 #[.pointer (some ⟨p, 0, none⟩), .slice (some ⟨sb1, 0, none⟩) 1 1, .slice A' m c', .slice (some ⟨sb2, 0, none⟩) 1 1, .agg #[.int .i64 0, .int .i64 (n : Int)]] w fun e w' => e = .returned (.int .i64 0) ∧ St w0 w' [] (M1 ++ bt a (sumL row srcs 0 n) :: M2) := by
  subst hk hD
  have hx : ∀ b ∈ [a], ∃ e ∈ M1 ++ bt a D :: M2, e.b = b := fun b hb => ⟨bt a D, by simp, by simp at hb; exact hb.symm⟩
  have hne : ∀ {e : Ent}, e ∈ X → e.b ∉ [a] := fun he hb => by
    have := h.apart he (e' := bt a D) (by simp)
    simp at hb; exact this hb
  have one : ∀ {l : List Nat}, B8 l → B8L [l] := fun h x hx => by
    have e : _ = _ := List.mem_singleton.1 hx
    rw [e]; exact h
  have := applyS (rows := [row]) (srcs := srcs) (L := [D]) (bs := [a]) (f := 0) (t := (D.length : Int)) (A1 := some ⟨sb1, 0, none⟩) (A2 := A') (A3 := some ⟨sb2, 0, none⟩) (c1 := 1) (c2 := c') (c3 := 1) (n1 := 1) (n2 := m) (n3 := 1) (M1 := M1) (M2 := M2) (X := X) SE h hS rfl hc.2.1.symm rfl ⟨by show 1 * 24 ≤ _; omega, fun l hl => by rw [List.mem_singleton.1 hl]; exact hkb⟩ hf ⟨by show 1 * 24 ≤ _; omega, fun l hl => by rw [List.mem_singleton.1 hl]; exact hn⟩ (one h8r) h8 (one h8D) rfl
    (RdL.lit (bs := [r1]) h rfl (List.mem_append_left _ h1) (fun e he => List.mem_append_left _ (by rw [List.mem_singleton.1 he]; exact hr)) (hne h1) (fun c hc => by rw [List.mem_singleton.1 hc]; exact hne hr)) (hc.rdT h hG hE hx) (h.rdV (List.mem_append_left _ h2)) (Off.some (hne h2))
  rw [fits_lit hok.1 hok.2 rfl, app_lit hok.1 hok.2 rfl] at this
  exact this
end

section
open Classical
/-- How often a stands in the list. -/
noncomputable def cnt (a : Ent) (l : List Ent) : Nat := List.count a l
noncomputable def cn (a b : Ent) : Nat := if b == a then 1 else 0
theorem cnt_nil (a : Ent) : cnt a [] = 0 := List.count_nil
theorem cnt_cons (a b : Ent) (l : List Ent) : cnt a (b :: l) = cn a b + cnt a l := by unfold cnt cn; rw [List.count_cons, Nat.add_comm]
theorem cnt_append (a : Ent) (l k : List Ent) : cnt a (l ++ k) = cnt a l + cnt a k := List.count_append
theorem perm_of {l k : List Ent} (h : ∀ a, cnt a l = cnt a k) : l.Perm k := List.perm_iff_count.2 h
end

end Go.Proofs.Ytdbfkjhdnbmpeaa.Sk
