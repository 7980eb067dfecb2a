/- Layer 9: the law KernelTurned: plain laws, and the set's calls over lists that live on. -/
import Derived.Test.YtdbfkjhdnbmpeaaKx
namespace Go.Proofs.Ytdbfkjhdnbmpeaa.Sk
set_option linter.unusedSimpArgs false
set_option linter.unusedVariables false
open Go Go.RowKit Go.Proofs.Ytdbfkjhdnbmpeaa Go.Proofs.Ytdbfkjhdnbmpeaa.Mm Go.Proofs.Ytdbfkjhdnbmpeaa.Gf Go.Proofs.Ytdbfkjhdnbmpeaa.Wr Go.Proofs.Ytdbfkjhdnbmpeaa.Nb Go.Proofs.Ytdbfkjhdnbmpeaa.St

/-- A list turned in its first p places. -/
def tn (g : Nat → Nat → Nat) (l : List Nat) (p : Nat) : List Nat := (List.range l.length).map fun q => if q < p then g q (l.getD q 0) else l.getD q 0
theorem tn_length (g : Nat → Nat → Nat) (l : List Nat) (p : Nat) : (tn g l p).length = l.length := by simp [tn]
theorem tn_get {g : Nat → Nat → Nat} {l : List Nat} {p q : Nat} (h : q < l.length) : (tn g l p).getD q 0 = if q < p then g q (l.getD q 0) else l.getD q 0 := by simp [tn, h]
theorem tn_zero (g : Nat → Nat → Nat) (l : List Nat) : tn g l 0 = l :=
  ext_getD (n := l.length) (tn_length _ _ _) rfl fun t ht => by rw [tn_get ht, if_neg (by omega)]
theorem tn_step {g : Nat → Nat → Nat} {l : List Nat} {p : Nat} (h : p < l.length) : (tn g l p).set p (g p (l.getD p 0)) = tn g l (p + 1) :=
  ext_getD (n := l.length) (by rw [List.length_set, tn_length]) (tn_length _ _ _) fun t ht => by
    rw [tn_get ht, List.getD_eq_getElem?_getD, List.getElem?_set]
    by_cases e : p = t
    · subst e; rw [if_pos rfl, if_pos (by rw [tn_length]; exact ht), if_pos (by omega)]; rfl
    · rw [if_neg e, ← List.getD_eq_getElem?_getD, tn_get ht]
      by_cases h1 : t < p
      · rw [if_pos h1, if_pos (by omega)]
      · rw [if_neg h1, if_neg (by omega)]
/-- .. a place that is left as it is. -/
theorem tn_skip {g : Nat → Nat → Nat} {l : List Nat} {p : Nat} (hg : p < l.length → g p (l.getD p 0) = l.getD p 0) : tn g l (p + 1) = tn g l p :=
  ext_getD (n := l.length) (tn_length _ _ _) (tn_length _ _ _) fun t ht => by
    rw [tn_get ht, tn_get ht]
    by_cases e : t = p
    · subst e; rw [if_pos (by omega), if_neg (by omega), hg ht]
    · by_cases h1 : t < p
      · rw [if_pos h1, if_pos (by omega)]
      · rw [if_neg h1, if_neg (by omega)]
theorem tn_b8 {g : Nat → Nat → Nat} {l : List Nat} {p : Nat} (h8 : B8 l) (hg : ∀ q x, x < 256 → g q x < 256) : B8 (tn g l p) := fun x hx => by
  obtain ⟨q, hq, rfl⟩ := List.mem_map.1 hx
  have := List.mem_range.1 hq
  split
  · exact hg _ _ (h8.get this)
  · exact h8.get this
/-- Lists turned, the first i of them. -/
def tL (g : Nat → Nat → Nat → Nat) (L : List (List Nat)) : Nat → List (List Nat)
  | 0 => L
  | i + 1 => (tL g L i).set i (tn (g i) (L.getD i []) (L.getD i []).length)
theorem tL_at (g : Nat → Nat → Nat → Nat) (L : List (List Nat)) : ∀ (i j : Nat), i ≤ j → (tL g L i).getD j [] = L.getD j []
  | 0, _, _ => rfl
  | i + 1, j, h => by
    rw [tL, List.getD_eq_getElem?_getD, List.getElem?_set, if_neg (by omega), ← List.getD_eq_getElem?_getD, tL_at g L i j (by omega)]
theorem tL_len (g : Nat → Nat → Nat → Nat) (L : List (List Nat)) : ∀ i, (tL g L i).map (·.length) = L.map (·.length)
  | 0 => rfl
  | i + 1 => by rw [tL, map_len_set (by rw [tn_length, tL_at g L i i (Nat.le_refl _)]), tL_len g L i]
theorem tL_b8 {g : Nat → Nat → Nat → Nat} {L : List (List Nat)} (h8 : B8L L) (hg : ∀ i q x, x < 256 → g i q x < 256) : ∀ i, B8L (tL g L i)
  | 0 => h8
  | i + 1 => (tL_b8 h8 hg i).set i (tn_b8 (h8.get i) (hg i))

theorem all_len {L L' : List (List Nat)} {n : Nat} (h : L'.map (·.length) = L.map (·.length)) (hn : ∀ r ∈ L, r.length = n) : ∀ r ∈ L', r.length = n := by
  intro x hx
  obtain ⟨i, hi, rfl⟩ := List.getElem_of_mem hx
  have e1 : L'[i] = L'.getD i [] := by simp [hi]
  have e := len_len h
  rw [e1, len_getD h i]
  exact hn _ (mem_getD (by omega))
theorem fitsE_lens {rows rows' srcs srcs' L : List (List Nat)} {f t : Int} (h1 : rows'.map (·.length) = rows.map (·.length)) (h2 : srcs'.map (·.length) = srcs.map (·.length)) : fitsE rows' srcs' L f t = fitsE rows srcs L f t := by
  have h3 : (srcs' ++ L).map (·.length) = (srcs ++ L).map (·.length) := by rw [List.map_append, List.map_append, h2]
  have hl : LenOk rows' srcs' L ↔ LenOk rows srcs L := by
    unfold LenOk
    rw [len_len h1, len_len h2]
    exact ⟨fun ⟨a, b, c⟩ => ⟨a, all_len h1.symm b, c.congr h3.symm⟩, fun ⟨a, b, c⟩ => ⟨a, all_len h1 b, c.congr h3⟩⟩
  unfold fitsE
  rw [lenM_congr h3]
  by_cases h1 : LenOk rows srcs L
  · rw [if_pos h1, if_pos (hl.2 h1)]
  · rw [if_neg h1, if_neg (fun k => h1 (hl.1 k))]
/-- Agrees says whether Apply would leave the lists as they are. -/
theorem agr_fix {rows srcs L : List (List Nat)} {f t : Int} (h : fitsE rows srcs L f t = 0) : agrE rows srcs L f t = decide (L = appE rows srcs L f t) := by
  by_cases hh : L = appE rows srcs L f t
  · rw [decide_eq_true hh, agr_iff h]
    intro r j hr hf ht
    have := appE_get h (i := r) (j := j) hr
    rw [if_pos ⟨hf, ht⟩, ← hh] at this
    exact this
  · rw [decide_eq_false hh, ← Bool.not_eq_true, agr_iff h]
    intro hA
    refine hh (ext_lists (appE_length _ _ _ _ _) fun i hi => ext_getD (n := (L.getD i []).length) (len_getD appE_len i) rfl fun j _ => ?_).symm
    rw [appE_get h hi]
    split
    · rename_i hj
      exact (hA i j hi hj.1 hj.2).symm
    · rfl
theorem agr_no {rows srcs L : List (List Nat)} {f t : Int} (h : fitsE rows srcs L f t ≠ 0) : agrE rows srcs L f t = false := by unfold agrE; rw [if_neg h]
theorem app_no {rows srcs L : List (List Nat)} {f t : Int} (h : fitsE rows srcs L f t ≠ 0) : appE rows srcs L f t = L := by unfold appE; rw [if_neg h]

theorem spr1_get {c : Nat} {diff D : List Nat} {f k j : Nat} (h : f + k ≤ D.length) : (spr1 c diff D f k).getD j 0 = if f ≤ j ∧ j < f + k then D.getD j 0 ^^^ gm c (diff.getD j 0) else D.getD j 0 := by
  unfold spr1
  rw [List.getD_eq_getElem?_getD, Wr.wr_get _ _ _ _ (by simpa using h), List.length_map, List.length_range]
  by_cases hj : f ≤ j ∧ j < f + k
  · rw [if_pos hj, if_pos hj]
    have e : f + (j - f) = j := by omega
    simp [show j - f < k by omega, e]
  · rw [if_neg hj, if_neg hj, ← List.getD_eq_getElem?_getD]
theorem sprD_length (col diff : List Nat) (L : List (List Nat)) (f t : Int) : (sprD col diff L f t).length = L.length := len_len sprD_len
theorem sprD_get {col diff : List Nat} {L : List (List Nat)} {f t : Int} (h : sprE col diff L f t = 0) {i j : Nat} (hi : i < L.length) : ((sprD col diff L f t).getD i []).getD j 0 = if f ≤ (j : Int) ∧ (j : Int) < t then (L.getD i []).getD j 0 ^^^ gm (col.getD i 0) (diff.getD j 0) else (L.getD i []).getD j 0 := by
  obtain ⟨g0, g1, g2, g3⟩ := spr_zero h
  have g4 := g0.2 (L.getD i []) (mem_getD hi)
  obtain ⟨f, rfl⟩ := Int.eq_ofNat_of_zero_le g1
  obtain ⟨t, rfl⟩ := Int.eq_ofNat_of_zero_le (show 0 ≤ t by omega)
  unfold sprD
  rw [if_pos h, show ((t : Int) - (f : Int)).toNat = t - f by omega, Int.toNat_natCast, sprL_get hi, spr1_get (by omega)]
  by_cases hj : f ≤ j ∧ j < t
  · rw [if_pos (by omega), if_pos (by omega)]
  · rw [if_neg (by omega), if_neg (by omega)]
/-- One of the slices turned: the sum is turned by its share. -/
theorem smk_turn {row diff : List Nat} {srcs : List (List Nat)} {a j : Nat} (ha : a < srcs.length) (hl : j < (srcs.getD a []).length) : ∀ n, smk row (srcs.set a (xs (srcs.getD a []) diff)) j n = smk row srcs j n ^^^ if a < n then gm (row.getD a 0) (diff.getD j 0) else 0
  | 0 => by simp [smk]
  | n + 1 => by
    rw [smk, smk, smk_turn ha hl n]
    by_cases e : a = n
    · subst e
      have e1 : (srcs.set a (xs (srcs.getD a []) diff)).getD a [] = xs (srcs.getD a []) diff := by simp [ha]
      rw [e1, xs_get hl, gm_right, if_neg (by omega), if_pos (by omega), Nat.xor_zero, Nat.xor_assoc]
    · have e1 : (srcs.set a (xs (srcs.getD a []) diff)).getD n [] = srcs.getD n [] := by
        rw [List.getD_eq_getElem?_getD, List.getElem?_set, if_neg e, ← List.getD_eq_getElem?_getD]
      rw [e1]
      by_cases h1 : a < n
      · rw [if_pos h1, if_pos (by omega), Nat.xor_assoc, Nat.xor_comm (gm (row.getD a 0) _), Nat.xor_assoc]
      · rw [if_neg h1, if_neg (by omega), Nat.xor_zero, Nat.xor_zero]
theorem getD_map0 {rows : List (List Nat)} {a i : Nat} (hi : i < rows.length) : (rows.map fun r => r.getD a 0).getD i 0 = (rows.getD i []).getD a 0 := by simp [hi]
/-- Spread of a difference is Apply anew. -/
theorem spr_app {rows srcs L : List (List Nat)} {diff : List Nat} {f t : Int} {a : Nat} (h : fitsE rows srcs L f t = 0) (ha : a < srcs.length) (hd : diff.length = (srcs.getD a []).length) :
    sprE (rows.map fun r => r.getD a 0) diff (appE rows srcs L f t) f t = 0 ∧ sprD (rows.map fun r => r.getD a 0) diff (appE rows srcs L f t) f t = appE rows (srcs.set a (xs (srcs.getD a []) diff)) L f t := by
  obtain ⟨⟨k1, k2, k3⟩, g1, g2, g3⟩ := fits_zero h
  have hm : srcs.getD a [] ∈ srcs ++ L := List.mem_append_left _ (mem_getD ha)
  have hda : (diff.length : Int) = (lenM (srcs ++ L) : Int) := by rw [hd, k3 _ hm]; rfl
  have hS : sprE (rows.map fun r => r.getD a 0) diff (appE rows srcs L f t) f t = 0 := by
    unfold sprE
    rw [if_pos ⟨by rw [List.length_map, appE_length, k1], all_len appE_len fun l hl => by rw [k3 l (List.mem_append_right _ hl), hd, k3 _ hm]⟩]
    unfold rngE
    rw [if_pos (by omega)]
  have h2 : fitsE rows (srcs.set a (xs (srcs.getD a []) diff)) L f t = 0 := by
    rw [fitsE_lens rfl (map_len_set (by rw [xs_length])), h]
  refine ⟨hS, ext_lists (by rw [sprD_length, appE_length, appE_length]) fun i hi => ?_⟩
  rw [appE_length] at hi
  refine ext_getD (n := (L.getD i []).length) (by rw [len_getD sprD_len, len_getD appE_len]) (len_getD appE_len i) fun j hj => ?_
  have hl : (srcs.getD a []).length = (L.getD i []).length := by rw [k3 _ hm, k3 _ (List.mem_append_right _ (mem_getD hi))]
  have hr : (rows.getD i []).length = srcs.length := k2 _ (mem_getD (by omega))
  rw [sprD_get hS (by rw [appE_length]; exact hi), appE_get h hi, appE_get h2 hi]
  split
  · rw [smk_turn ha (by omega), if_pos (by omega), getD_map0 (by omega)]
  · rfl

/-- Where the i-th list of a copy is named. -/
theorem CopyL.hdr {A : Option Addr} {n c i : Nat} {bs : List Nat} {L : List (List Nat)} {G N : List Ent} {w0 w : World} (h : CopyL A n c bs L G) (hi : i < n) (hs : St w0 w [] N) (hG : ∀ e ∈ G, e ∈ N) :
    ∃ b o, A = some ⟨b, o, none⟩ ∧ ∀ (w' : World) (N' : List Ent), St w0 w' [] N' → (∀ e ∈ G, e ∈ N') → w'.cell? ⟨b, o + i, none⟩ = some (.slice (some ⟨bs.getD i 0, 0, none⟩) (L.getD i []).length (L.getD i []).length) := by
  have hL : i < L.length := by rw [← h.2.1]; exact hi
  obtain ⟨b, o, e, _⟩ := (h.rdV hs hG) (by rw [sds_length h.1]; omega)
  refine ⟨b, o, e, fun w' N' hs' hG' => ?_⟩
  obtain ⟨b', o', e', k⟩ := (h.rdV hs' hG') (by rw [sds_length h.1]; omega)
  rw [e] at e'
  injection e' with e'
  injection e' with e1 e2 _
  subst e1 e2
  exact k i _ (sds_get h.1 hL)

/-- The lists at hand: rows, slices that are read, slices that are written, and what lies below. -/
abbrev tX (GR : List Ent) (bsR : List Nat) (R : List (List Nat)) (GS : List Ent) (bsS : List Nat) (Q : List (List Nat)) (GT : List Ent) (bsT : List Nat) (T : List (List Nat)) (K : List Ent) : List Ent :=
  GT ++ (ents bsT T ++ (GS ++ (ents bsS Q ++ (GR ++ (ents bsR R ++ K)))))

theorem tX_sub (GR : List Ent) (bsR : List Nat) (R : List (List Nat)) (GS : List Ent) (bsS : List Nat) (Q : List (List Nat)) (GT : List Ent) (bsT : List Nat) (T : List (List Nat)) (K : List Ent) : K.Sublist (tX GR bsR R GS bsS Q GT bsT T K) :=
  (((((List.sublist_append_right (ents bsR R) K).trans (List.sublist_append_right GR _)).trans (List.sublist_append_right (ents bsS Q) _)).trans (List.sublist_append_right GS _)).trans (List.sublist_append_right (ents bsT T) _)).trans (List.sublist_append_right GT _)

section
variable {p j : Nat} {GR GS GT K S Z N : List Ent} {bsR bsS bsT : List Nat} {R Q T : List (List Nat)} {w0 w : World} {A1 A2 A3 : Option Addr} {n1 n2 n3 c1 c2 c3 : Nat} {f t : Int}
theorem tn_app (SE : SetE p j S) (h : St w0 w [] (Z ++ tX GR bsR R GS bsS Q GT bsT T K)) (hS : ∀ e ∈ S, e ∈ K) (cR : CopyL A1 n1 c1 bsR R GR) (cS : CopyL A2 n2 c2 bsS Q GS) (cT : CopyL A3 n3 c3 bsT T GT)
    (hf1 : Fit R) (hf2 : Fit Q) (hf3 : Fit T) (h81 : B8L R) (h82 : B8L Q) (h83 : B8L T) :
    Calls Try.prog 14 #[.pointer (some ⟨p, 0, none⟩), .slice A1 n1 c1, .slice A2 n2 c2, .slice A3 n3 c3, .agg #[.int .i64 f, .int .i64 t]] w fun e w' => e = .returned (.int .i64 (fitsE R Q T f t)) ∧ St w0 w' [] (Z ++ tX GR bsR R GS bsS Q GT bsT (appE R Q T f t) K) := by
  have e : ∀ T, Z ++ tX GR bsR R GS bsS Q GT bsT T K = [] ++ ((Z ++ GT) ++ (ents bsT T ++ (GS ++ (ents bsS Q ++ (GR ++ (ents bsR R ++ K)))))) := fun T => by simp [tX]
  have h1 : St w0 w [] ([] ++ ((Z ++ GT) ++ (ents bsT T ++ (GS ++ (ents bsS Q ++ (GR ++ (ents bsR R ++ K))))))) := by rw [← e]; exact h
  have h2 : St w0 w [] ((GS ++ (ents bsS Q ++ (GR ++ (ents bsR R ++ K)))) ++ ((Z ++ GT) ++ ents bsT T)) := by
    have : St w0 w [] (((Z ++ GT) ++ ents bsT T) ++ (GS ++ (ents bsS Q ++ (GR ++ (ents bsR R ++ K))))) := by simpa only [List.nil_append, List.append_assoc] using h1
    exact this.perm List.perm_append_comm
  have hx : ∀ b ∈ bsT, ∃ e ∈ (Z ++ GT) ++ ents bsT T, e.b = b := fun b hb => by
    obtain ⟨e, he, hb⟩ := ents_of cT.1 hb
    exact ⟨e, by simp [he], hb⟩
  rw [e]
  refine applyS SE h1 (fun e he => by simp [hS e he]) cR.2.1.symm cS.2.1.symm cT.2.1.symm hf1 hf2 hf3 h81 h82 h83 cT.1 (cR.rdT h2 (fun e he => by simp [he]) (fun e he => by simp [he]) hx) (cS.rdT h2 (fun e he => by simp [he]) (fun e he => by simp [he]) hx) (cT.rdV h1 (fun e he => by simp [he])) (cT.off fun e he hb => ?_)
  obtain ⟨e', he', hb'⟩ := ents_of cT.1 hb
  have h3 : St w0 w [] ((Z ++ GT) ++ (ents bsT T ++ (GS ++ (ents bsS Q ++ (GR ++ (ents bsR R ++ K)))))) := h1
  exact h3.apart (e := e) (e' := e') (by simp [he]) (by simp [he']) hb'.symm
theorem tn_agr (SE : SetE p j S) (h : St w0 w [] N) (hS : ∀ e ∈ S, e ∈ N) (cR : CopyL A1 n1 c1 bsR R GR) (cS : CopyL A2 n2 c2 bsS Q GS) (cT : CopyL A3 n3 c3 bsT T GT)
    (mR : ∀ e ∈ GR ++ ents bsR R, e ∈ N) (mS : ∀ e ∈ GS ++ ents bsS Q, e ∈ N) (mT : ∀ e ∈ GT ++ ents bsT T, e ∈ N)
    (hf1 : Fit R) (hf2 : Fit Q) (hf3 : Fit T) (h81 : B8L R) (h82 : B8L Q) (h83 : B8L T) :
    Calls Try.prog 15 #[.pointer (some ⟨p, 0, none⟩), .slice A1 n1 c1, .slice A2 n2 c2, .slice A3 n3 c3, .agg #[.int .i64 f, .int .i64 t]] w fun e w' => e = .returned (.tuple #[.bool (agrE R Q T f t), .int .i64 (fitsE R Q T f t)]) ∧ St w0 w' [] N :=
  agreesS (X := []) SE h hS cR.2.1.symm cS.2.1.symm cT.2.1.symm hf1 hf2 hf3 h81 h82 h83 (cR.rdLow h (fun e he => mR e (by simp [he])) (fun e he => mR e (by simp [he]))) (cS.rdLow h (fun e he => mS e (by simp [he])) (fun e he => mS e (by simp [he]))) (cT.rd0 h (fun e he => mT e (by simp [he])) (fun e he => mT e (by simp [he])))
end

end Go.Proofs.Ytdbfkjhdnbmpeaa.Sk
