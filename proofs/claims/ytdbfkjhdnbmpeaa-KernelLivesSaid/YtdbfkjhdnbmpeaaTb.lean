/- The tables of layer 2 as rows of numbers: what stands at each place, and what sums and differences of logarithms come to. Plain Lean but for the model's values. -/
import Derived.Test.YtdbfkjhdnbmpeaaGf
import Derived.Test.YtdbfkjhdnbmpeaaMm
namespace Go.Proofs.Ytdbfkjhdnbmpeaa.Tb
set_option linter.unusedSimpArgs false
set_option linter.unusedVariables false
open Go Go.Proofs.Ytdbfkjhdnbmpeaa

/-- The logarithm, by looking. -/
def lg (j : Nat) : Nat := ((List.range 255).find? (fun n => Gf.pw 2 n == j)).getD 0

/-- What Log answers. -/
def lo (a : Nat) : Value := if a = 0 then .tuple #[.int .i64 0, .int .i64 20] else .tuple #[.int .i64 ((lg a : Nat) : Int), .int .i64 0]
theorem lo_zero : lo 0 = .tuple #[.int .i64 0, .int .i64 20] := if_pos rfl
theorem lo_pos {a : Nat} (h : ¬ a = 0) : lo a = .tuple #[.int .i64 ((lg a : Nat) : Int), .int .i64 0] := if_neg h

/-- A place of the tables behind k rounds. -/
def tabf (k i : Nat) : Value :=
  if i < 255 then .int .u8 ((if i < k then Gf.pw 2 i else 0 : Nat) : Int)
  else if i < 510 then .int .u8 ((if i - 255 < k then Gf.pw 2 (i - 255) else 0 : Nat) : Int)
  else .int .i64 ((if lg (i - 510) < k then lg (i - 510) else 0 : Nat) : Int)
def tab (k : Nat) : Array Value := ((List.range 766).map (tabf k)).toArray
/-- The tables, done. -/
def tabs : Array Value := tab 255

theorem tab_get {k i : Nat} (h : i < 766) : (tab k)[i]? = some (tabf k i) := by
  unfold tab
  simp [h]
theorem tab_size (k : Nat) : (tab k).size = 766 := by unfold tab; simp

/-- The powers of 2, one behind the other. -/
def pws : Nat → Nat → List Nat
  | 0, _ => []
  | n + 1, x => x :: pws n (Gf.xt x)
theorem pws_get : ∀ (n m k : Nat), k < n → (pws n (Gf.pw 2 m))[k]? = some (Gf.pw 2 (m + k))
  | 0, _, _, h => by omega
  | n + 1, m, 0, _ => rfl
  | n + 1, m, k + 1, h => by
    have e : Gf.xt (Gf.pw 2 m) = Gf.pw 2 (m + 1) := (Gf.gm_two' (Gf.pw_lt (by decide) m)).symm
    show (pws n (Gf.xt (Gf.pw 2 m)))[k]? = _
    rw [e, pws_get n (m + 1) k (by omega), show m + 1 + k = m + (k + 1) from by omega]
def pwl : List Nat := pws 255 1
theorem pwl_get {k : Nat} (h : k < 255) : pwl[k]? = some (Gf.pw 2 k) := by
  have := pws_get 255 0 k h
  rw [Nat.zero_add] at this
  exact this

/-- All elements but 0, each once. -/
theorem pwl_nodup : (List.range 255).all (fun i => (List.range 255).all (fun j => i == j || pwl.getD i 0 != pwl.getD j 0)) = true := by decide +kernel
theorem pw_inj {i j : Nat} (hi : i < 255) (hj : j < 255) (h : Gf.pw 2 i = Gf.pw 2 j) : i = j := by
  have h1 := pwl_nodup
  rw [List.all_eq_true] at h1
  have h2 := h1 i (by simpa using hi)
  rw [List.all_eq_true] at h2
  have h3 := h2 j (by simpa using hj)
  have e1 : pwl.getD i 0 = Gf.pw 2 i := by rw [List.getD_eq_getElem?_getD, pwl_get hi]; rfl
  have e2 : pwl.getD j 0 = Gf.pw 2 j := by rw [List.getD_eq_getElem?_getD, pwl_get hj]; rfl
  rw [e1, e2, h] at h3
  simpa using h3
theorem lg_lt (j : Nat) : lg j < 255 := by
  unfold lg
  cases h : (List.range 255).find? (fun n => Gf.pw 2 n == j) with
  | none => decide
  | some n =>
    have := List.mem_of_find?_eq_some h
    simpa using this
theorem lg_pw {n : Nat} (h : n < 255) : lg (Gf.pw 2 n) = n := by
  unfold lg
  cases hf : (List.range 255).find? (fun m => Gf.pw 2 m == Gf.pw 2 n) with
  | none =>
    rw [List.find?_eq_none] at hf
    have := hf n (by simpa using h)
    simp at this
  | some m =>
    have h1 := List.find?_some hf
    have h2 := List.mem_of_find?_eq_some hf
    exact pw_inj (by simpa using h2) h (by simpa using h1)
theorem pwl_all : (List.range 256).all (fun j => j == 0 || pwl.contains j) = true := by decide +kernel
theorem pwl_length : pwl.length = 255 := by decide +kernel
theorem pw_lg {j : Nat} (h : j < 256) (h0 : j ≠ 0) : Gf.pw 2 (lg j) = j := by
  have h1 := pwl_all
  rw [List.all_eq_true] at h1
  have h2 := h1 j (by simpa using h)
  have h3 : j ∈ pwl := by simpa [h0] using h2
  obtain ⟨k, hk, e⟩ := List.getElem_of_mem h3
  have hk' : k < 255 := by rw [pwl_length] at hk; exact hk
  have e2 := pwl_get hk'
  rw [List.getElem?_eq_getElem hk, e] at e2
  injection e2 with e2
  rw [e2, lg_pw hk']
theorem lg_one : lg 1 = 0 := lg_pw (n := 0) (by decide)

/-- What the powers' row holds, at any place of it. -/
theorem exp_at {i : Nat} (h : i < 510) : tabs[i]? = some (.int .u8 ((Gf.pw 2 (i % 255) : Nat) : Int)) := by
  unfold tabs
  rw [tab_get (by omega)]
  unfold tabf
  by_cases h1 : i < 255
  · rw [if_pos h1, if_pos h1, Nat.mod_eq_of_lt h1]
  · rw [if_neg h1, if_pos h, if_pos (by omega), show i % 255 = i - 255 from by omega]
theorem log_at {j : Nat} (h : j < 256) : tabs[510 + j]? = some (.int .i64 ((lg j : Nat) : Int)) := by
  unfold tabs
  rw [tab_get (by omega)]
  unfold tabf
  rw [if_neg (by omega), if_neg (by omega), show 510 + j - 510 = j from by omega, if_pos (lg_lt j)]
theorem mul_log {a b : Nat} (ha : a < 256) (hb : b < 256) (a0 : a ≠ 0) (b0 : b ≠ 0) : Gf.pw 2 ((lg a + lg b) % 255) = Gf.gm a b := by
  rw [← Gf.pw_mod (by decide) (by decide), Gf.pw_add (by decide), pw_lg ha a0, pw_lg hb b0]
theorem inv_log {a : Nat} (ha : a < 256) (a0 : a ≠ 0) : Gf.pw 2 ((255 - lg a) % 255) = Gf.pw a 254 := by
  have hl := lg_lt a
  have h1 : Gf.gm a (Gf.pw 2 ((255 - lg a) % 255)) = 1 := by
    rw [← Gf.pw_mod (by decide) (by decide)]
    have : Gf.gm (Gf.pw 2 (lg a)) (Gf.pw 2 (255 - lg a)) = 1 := by
      rw [← Gf.pw_add (by decide), show lg a + (255 - lg a) = 255 from by omega, Gf.pw255 (by decide) (by decide)]
    rwa [pw_lg ha a0] at this
  have h2 := Gf.inv_gm ha a0
  have hx : ∀ x, x < 256 → Gf.gm a x = 1 → x = Gf.pw a 254 := by
    intro x hx h
    have e : Gf.gm (Gf.pw a 254) (Gf.gm a x) = x := by
      rw [← Gf.gm_assoc (Gf.pw_lt ha _) ha hx, Gf.gm_comm (Gf.pw_lt ha _) ha, h2, Gf.one_gm hx]
    rw [h, Gf.gm_one (Gf.pw_lt ha _)] at e
    exact e.symm
  exact hx _ (Gf.pw_lt (by decide) _) h1

/-- One round of the constructor. -/
theorem tab_step {k : Nat} (hk : k < 255) :
    (((tab k).setIfInBounds k (.int .u8 ((Gf.pw 2 k : Nat) : Int))).setIfInBounds (k + 255) (.int .u8 ((Gf.pw 2 k : Nat) : Int))).setIfInBounds (510 + Gf.pw 2 k) (.int .i64 (k : Int)) = tab (k + 1) := by
  apply Array.ext_getElem?
  intro i
  have hp := Gf.pw_lt (a := 2) (by decide) k
  by_cases hi : i < 766
  · rw [tab_get hi]
    simp only [Array.getElem?_setIfInBounds, Array.size_setIfInBounds, tab_size]
    by_cases h3 : 510 + Gf.pw 2 k = i
    · subst h3
      rw [if_pos rfl, if_pos hi]
      unfold tabf
      rw [if_neg (by omega), if_neg (by omega), show 510 + Gf.pw 2 k - 510 = Gf.pw 2 k from by omega, lg_pw hk, if_pos (by omega)]
    · rw [if_neg h3]
      by_cases h2 : k + 255 = i
      · subst h2
        rw [if_pos rfl, if_pos (by omega)]
        unfold tabf
        rw [if_neg (by omega), if_pos (by omega), show k + 255 - 255 = k from by omega, if_pos (by omega)]
      · rw [if_neg h2]
        by_cases h1 : k = i
        · subst h1
          rw [if_pos rfl, if_pos (by omega)]
          unfold tabf
          rw [if_pos hk, if_pos (by omega)]
        · rw [if_neg h1, tab_get hi]
          unfold tabf
          by_cases c1 : i < 255
          · rw [if_pos c1, if_pos c1]
            by_cases c2 : i < k
            · rw [if_pos c2, if_pos (by omega)]
            · rw [if_neg c2, if_neg (by omega)]
          · rw [if_neg c1, if_neg c1]
            by_cases c3 : i < 510
            · rw [if_pos c3, if_pos c3]
              by_cases c2 : i - 255 < k
              · rw [if_pos c2, if_pos (by omega)]
              · rw [if_neg c2, if_neg (by omega)]
            · rw [if_neg c3, if_neg c3]
              by_cases c2 : lg (i - 510) < k
              · rw [if_pos c2, if_pos (by omega)]
              · rw [if_neg c2]
                by_cases c4 : lg (i - 510) = k
                · by_cases c5 : i - 510 = 0
                  · have h0 : lg (i - 510) = 0 := by rw [c5]; decide +kernel
                    rw [h0]; simp
                  · have := pw_lg (j := i - 510) (by omega) c5
                    rw [c4] at this
                    omega
                · rw [if_neg (by omega)]
  · rw [Array.getElem?_eq_none (by simp [tab_size]; omega), Array.getElem?_eq_none (by rw [tab_size]; omega)]

end Go.Proofs.Ytdbfkjhdnbmpeaa.Tb
