/- Layer 7 (sliced): plain words on what run leaves. No program in sight. -/
import Derived.Test.YtdbfkjhdnbmpeaaSp
namespace Go.Proofs.Ytdbfkjhdnbmpeaa.Sl
set_option linter.unusedSimpArgs false
set_option linter.unusedVariables false
open Go Go.RowKit Go.Proofs.Ytdbfkjhdnbmpeaa Go.Proofs.Ytdbfkjhdnbmpeaa.Mm Go.Proofs.Ytdbfkjhdnbmpeaa.Gf Go.Proofs.Ytdbfkjhdnbmpeaa.Wr Go.Proofs.Ytdbfkjhdnbmpeaa.St Go.Proofs.Ytdbfkjhdnbmpeaa.Wd

theorem wr_append : ∀ (a b D : List Nat) (o : Nat), Wr.wr D o (a ++ b) = Wr.wr (Wr.wr D o a) (o + a.length) b
  | [], b, D, o => by simp [Wr.wr]
  | x :: a, b, D, o => by
    show Wr.wr (D.set o x) (o + 1) (a ++ b) = Wr.wr (Wr.wr (D.set o x) (o + 1) a) (o + (a.length + 1)) b
    rw [wr_append a b, show o + 1 + a.length = o + (a.length + 1) from by omega]
/-- Eight places more. -/
theorem wr_word {vs D : List Nat} {o i : Nat} (h : i + 8 ≤ vs.length) : Wr.wr (Wr.wr D o (vs.take i)) (o + i) ((vs.drop i).take 8) = Wr.wr D o (vs.take (i + 8)) := by
  have e : vs.take (i + 8) = vs.take i ++ (vs.drop i).take 8 := List.take_add
  rw [e, wr_append, List.length_take, Nat.min_eq_left (by omega)]
/-- .. and what is left at the end. -/
theorem wr_rest {vs D : List Nat} {o i : Nat} (h : i ≤ vs.length) : Wr.wr (Wr.wr D o (vs.take i)) (o + i) (vs.drop i) = Wr.wr D o vs := by
  have e : vs = vs.take i ++ vs.drop i := (List.take_append_drop i vs).symm
  conv => rhs; rw [e]
  rw [wr_append, List.length_take, Nat.min_eq_left h]
theorem outs_zero (c od : Nat) (D l : List Nat) : outs c 0 od D l = l.map (gm c) := by
  apply List.ext_getElem?
  intro i
  by_cases hi : i < l.length
  · simp [outs, hi]
  · simp [outs, hi]
theorem and_full : ∀ x : Fin 256, x.val &&& 255 = x.val := by decide +kernel
theorem outs_full {c od : Nat} {D l : List Nat} (h8 : B8 D) (ho : od + l.length ≤ D.length) : outs c 255 od D l = (List.range l.length).map fun i => D.getD (od + i) 0 ^^^ gm c (l.getD i 0) := by
  unfold outs
  apply List.map_congr_left
  intro i hi
  have hi' : i < l.length := by simpa using hi
  rw [and_full ⟨D.getD (od + i) 0, h8.get (by omega)⟩]
theorem zip_word {a b : List Nat} {i : Nat} : ((List.zipWith (· ^^^ ·) a b).drop i).take 8 = List.zipWith (· ^^^ ·) ((a.drop i).take 8) ((b.drop i).take 8) := by
  rw [List.drop_zipWith, List.take_zipWith]
theorem outs_piece {c keep od i : Nat} {D l : List Nat} (k : Nat) : ((outs c keep od D l).drop i).take k = outs c keep (od + i) D ((l.drop i).take k) := by
  apply List.ext_getElem?
  intro j
  by_cases hj : j < k ∧ i + j < l.length
  · have h1 : j < min k (l.length - i) := by omega
    have e1 : (outs c keep (od + i) D ((l.drop i).take k))[j]? = some ((D.getD (od + i + j) 0 &&& keep) ^^^ gm c (((l.drop i).take k).getD j 0)) := by
      unfold outs
      rw [List.getElem?_map, List.length_take, List.length_drop, List.getElem?_range h1]; rfl
    rw [e1]
    simp [outs, hj.1, hj.2, Nat.add_assoc]
  · rw [List.getElem?_eq_none (by rw [List.length_take, List.length_drop, outs_length]; omega), List.getElem?_eq_none (by rw [outs_length, List.length_take, List.length_drop]; omega)]

end Go.Proofs.Ytdbfkjhdnbmpeaa.Sl
