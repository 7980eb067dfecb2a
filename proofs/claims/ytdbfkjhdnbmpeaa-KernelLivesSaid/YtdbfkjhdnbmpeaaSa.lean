/- What a source that is read while a list is written holds. No program in sight. -/
import Derived.Test.YtdbfkjhdnbmpeaaWr
import Derived.Test.YtdbfkjhdnbmpeaaGf
namespace Go.Proofs.Ytdbfkjhdnbmpeaa.Nb
set_option linter.unusedSimpArgs false
set_option linter.unusedVariables false
open Go Go.RowKit Go.Proofs.Ytdbfkjhdnbmpeaa Go.Proofs.Ytdbfkjhdnbmpeaa.Mm Go.Proofs.Ytdbfkjhdnbmpeaa.Wr

/-- What the source holds at the i-th round, though places ahead of it were written. -/
theorem src_at {w w2 : World} {bd od bs os n i : Nat} {D l vs : List Nat} (hd : Bytes w bd D) (hk : But bd w w2) (hw : Bytes w2 bd (Wr.wr D od (vs.take i))) (hvs : vs.length = n) (hn : od + n ≤ D.length) (hal : bs ≠ bd ∨ od ≤ os)
    (hs : w.cell? ⟨bs, os + i, none⟩ = some (.int .u8 ((l.getD i 0 : Nat) : Int))) (hi : i < n) (hbs : bs < w.heap.size) : w2.cell? ⟨bs, os + i, none⟩ = some (.int .u8 ((l.getD i 0 : Nat) : Int)) := by
  by_cases hb : bs = bd
  · subst hb
    have hlt : os + i < D.length := by
      rcases Nat.lt_or_ge (os + i) D.length with h | h
      · exact h
      · exfalso
        unfold Bytes Blk at hd
        unfold World.cell? at hs
        simp only [hd] at hs
        rw [Array.getElem?_eq_none (by rw [row_size]; exact h)] at hs
        simp at hs
    have h0 := hd.cellRow hlt
    rw [h0] at hs
    have h1 := hw.cellRow (i := os + i) (by rw [wr_length]; exact hlt)
    rw [h1, ← hs]
    have e : (Wr.wr D od (vs.take i)).getD (os + i) 0 = D.getD (os + i) 0 := by
      rw [List.getD_eq_getElem?_getD, wr_get _ _ _ _ (by rw [List.length_take, hvs]; omega), if_neg (by rw [List.length_take, hvs]; omega), ← List.getD_eq_getElem?_getD]
    rw [e]
  · rw [hk.cell (p := ⟨bs, _, none⟩) hbs hb]; exact hs

end Go.Proofs.Ytdbfkjhdnbmpeaa.Nb

namespace Go.Proofs.Ytdbfkjhdnbmpeaa.Wr
open Go Go.RowKit Go.Proofs.Ytdbfkjhdnbmpeaa Go.Proofs.Ytdbfkjhdnbmpeaa.Mm Go.Proofs.Ytdbfkjhdnbmpeaa.Gf

theorem take_map_succ {l : List Nat} {i : Nat} (f : Nat → Nat) (h : i < l.length) : (l.take (i + 1)).map f = (l.take i).map f ++ [f (l.getD i 0)] := by
  rw [List.take_succ_eq_append_getElem h, List.map_append, List.map_singleton]
  simp [h]
/-- The sum of two lists, place by place, as long as the first. -/
def xs (l1 l2 : List Nat) : List Nat := (List.range l1.length).map fun i => l1.getD i 0 ^^^ l2.getD i 0
theorem xs_length (l1 l2 : List Nat) : (xs l1 l2).length = l1.length := by simp [xs]
theorem xs_get {l1 l2 : List Nat} {i : Nat} (h : i < l1.length) : (xs l1 l2).getD i 0 = l1.getD i 0 ^^^ l2.getD i 0 := by simp [xs, h]

theorem wr_b8 : ∀ {vs D : List Nat} {o : Nat}, B8 D → B8 vs → B8 (Wr.wr D o vs)
  | [], _, _, h, _ => h
  | v :: vs, D, o, h, k => by
    rw [Wr.wr]
    exact wr_b8 (fun x hx => (List.mem_or_eq_of_mem_set hx).elim (h x) (fun e => e ▸ k v (by simp))) (fun x hx => k x (by simp [hx]))
theorem map_xs (f : Nat → Nat) (a b : List Nat) (h : a.length = b.length) (hf : ∀ x y, f (x ^^^ y) = f x ^^^ f y) : xs (a.map f) (b.map f) = (xs a b).map f := by
  unfold xs
  rw [List.length_map, List.map_map]
  apply List.map_congr_left
  intro i hi
  have hi1 : i < a.length := by simpa using hi
  have hi2 : i < b.length := by omega
  simp [hi1, hi2, hf]
theorem xs_take_succ {D l : List Nat} {i : Nat} {f : Nat → Nat} (h : i < D.length) (h2 : i < l.length) : (xs D (l.map f)).take (i + 1) = (xs D (l.map f)).take i ++ [D.getD i 0 ^^^ f (l.getD i 0)] := by
  rw [List.take_succ_eq_append_getElem (by rw [xs_length]; exact h)]
  congr 2
  simp [xs, h, h2]
theorem xs_maps (f g : Nat → Nat) (a : List Nat) : xs (a.map f) (a.map g) = a.map fun x => f x ^^^ g x := by
  apply List.ext_getElem?
  intro i
  by_cases hi : i < a.length
  · simp [xs, hi]
  · simp [xs, hi]
theorem xs_b8 {a b : List Nat} (ha : B8 a) (hb : B8 b) (h : a.length = b.length) : B8 (xs a b) := by
  intro x hx
  obtain ⟨i, hi, rfl⟩ := List.mem_map.1 hx
  have hi1 : i < a.length := by simpa using hi
  exact xor_lt (ha.get hi1) (hb.get (by omega))
theorem xs_comm_self (a : List Nat) : xs a a = List.replicate a.length 0 := by
  apply List.ext_getElem?
  intro i
  by_cases hi : i < a.length
  · simp [xs, hi]
  · simp [xs, hi]
theorem map_b8 {c : Nat} {l : List Nat} (hc : c < 256) : B8 (l.map (gm c)) := by
  intro x hx
  obtain ⟨y, _, rfl⟩ := List.mem_map.1 hx
  exact gm_lt _ hc
theorem map_left {c d : Nat} (hc : c < 256) (hd : d < 256) {l : List Nat} : l.map (gm (c ^^^ d)) = xs (l.map (gm c)) (l.map (gm d)) := by
  rw [xs_maps]
  exact List.map_congr_left fun x _ => gm_left x hc hd
theorem map_assoc {c d : Nat} (hc : c < 256) (hd : d < 256) {l : List Nat} (h8 : B8 l) : l.map (gm (gm c d)) = (l.map (gm d)).map (gm c) := by
  rw [List.map_map]
  exact List.map_congr_left fun x hx => gm_assoc hc hd (h8 x hx)
theorem map_one {l : List Nat} (h : B8 l) : l.map (gm 1) = l := by
  have : l.map (gm 1) = l.map id := List.map_congr_left fun x hx => one_gm (h x hx)
  rw [this]; simp
theorem map_zero (l : List Nat) : l.map (gm 0) = List.replicate l.length 0 := by
  apply List.ext_getElem?
  intro i
  by_cases hi : i < l.length
  · simp [hi, gm_zero_left]
  · simp [hi]


theorem b8_set {T : List Nat} (h : B8 T) {v : Nat} (hv : v < 256) {i : Nat} : B8 (T.set i v) := fun _ hx => (List.mem_or_eq_of_mem_set hx).elim (h _) (fun e => e ▸ hv)

theorem fill_skip {f : Nat → Nat} {n k : Nat} (h : f k = 0) : fill f n k = fill f n (k + 1) := by
  unfold fill
  apply List.map_congr_left
  intro j _
  by_cases h1 : j < k
  · rw [if_pos h1, if_pos (by omega)]
  · by_cases h2 : j = k
    · subst h2; rw [if_neg h1, if_pos (by omega), h]
    · rw [if_neg h1, if_neg (by omega)]

theorem fill_b8 {o : List Nat} {n k : Nat} (h : B8 o) : B8 (fill (fun i => o.getD i 0) n k) := by
  intro x hx
  obtain ⟨i, _, rfl⟩ := List.mem_map.1 hx
  dsimp only
  by_cases h1 : i < k
  · rw [if_pos h1]
    by_cases h2 : i < o.length
    · exact h.get h2
    · rw [List.getD_eq_getElem?_getD, List.getElem?_eq_none (by omega)]; decide
  · rw [if_neg h1]; decide

theorem add_xs {D l : List Nat} {c n : Nat} (hD : D.length = n) (hl : l.length = n) : Wr.wr D 0 ((List.range n).map fun i => D.getD (0 + i) 0 ^^^ gm c (l.getD i 0)) = xs D (l.map (gm c)) := by
  rw [wr_all _ _ (by simp [hD])]
  unfold xs
  rw [hD]
  apply List.map_congr_left
  intro i hi
  have hi' : i < l.length := by rw [hl]; simpa using hi
  simp [hi']

theorem xs_twice {D m : List Nat} (h : m.length = D.length) : xs (xs D m) m = D := by
  apply List.ext_getElem?
  intro i
  by_cases hi : i < D.length
  · have hi2 : i < m.length := by omega
    simp [xs, hi, hi2, Nat.xor_assoc]
  · simp [xs, hi]

theorem map_back {c : Nat} (hc : c < 256) (h0 : c ≠ 0) {l : List Nat} (h8 : B8 l) : (l.map (gm c)).map (gm (pw c 254)) = l := by
  rw [List.map_map]
  have : l.map (gm (pw c 254) ∘ gm c) = l.map id := List.map_congr_left fun x hx => by
    show gm (pw c 254) (gm c x) = x
    rw [← gm_assoc (pw_lt hc 254) hc (h8 x hx), gm_comm (pw_lt hc 254) hc, inv_gm hc h0, one_gm (h8 x hx)]
  rw [this]; simp

end Go.Proofs.Ytdbfkjhdnbmpeaa.Wr
