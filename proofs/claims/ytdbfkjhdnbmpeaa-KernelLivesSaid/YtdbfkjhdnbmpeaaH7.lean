/- Layer 7: the contracts of the laws' helpers (culletlaw07), over St. -/
import Derived.Test.YtdbfkjhdnbmpeaaSu
import Derived.Test.YtdbfkjhdnbmpeaaKk
import Derived.Test.YtdbfkjhdnbmpeaaOb
import Derived.IntWalk
namespace Go.Proofs.Ytdbfkjhdnbmpeaa.Sl
set_option linter.unusedSimpArgs false
set_option linter.unusedVariables false
open Go Go.RowKit Go.Proofs.Ytdbfkjhdnbmpeaa Go.Proofs.Ytdbfkjhdnbmpeaa.Mm Go.Proofs.Ytdbfkjhdnbmpeaa.Gf Go.Proofs.Ytdbfkjhdnbmpeaa.Wr Go.Proofs.Ytdbfkjhdnbmpeaa.St Go.Proofs.Ytdbfkjhdnbmpeaa.Wd

theorem awk1 : Wr.wr [7, 7, 7] 0 ([128, 1, 0].map (gm (2 : Int).toNat)) = [29, 2, 0] := by decide +kernel
theorem awk2 : ((W8 ((b8 (9259542123273814144 : Int).toNat).map (gm (2 : Int).toNat)) : Nat) : Int) = 2097865012304223517 := by decide +kernel

theorem Srcs.other {w : World} {bd od : Nat} {A : Option Addr} {D l : List Nat} (hr : Rd w A l) (hne : ∀ a, A = some a → a.block ≠ bd) : Srcs w bd od A D l := by
  intro h0
  obtain ⟨bs, os, rfl, hc⟩ := hr h0
  exact ⟨bs, os, rfl, .inr ⟨hne _ rfl, hc⟩⟩
theorem Srcs.own {w : World} {bd od : Nat} {D l : List Nat} (h : ∀ k, k < l.length → D.getD (od + k) 0 = l.getD k 0) : Srcs w bd od (some ⟨bd, od, none⟩) D l :=
  fun _ => ⟨bd, od, rfl, .inl ⟨rfl, rfl, h⟩⟩

/-- A list of bytes among marks: three ahead of its n bytes, twelve behind. -/
def Edg (D : List Nat) (n : Nat) : Prop := n + 15 ≤ D.length ∧ ∀ i, i < n + 15 → (i < 3 ∨ 3 + n ≤ i) → D.getD i 0 = if i < 3 then 201 + i else 201 + i - n
theorem edg_wr {D x : List Nat} {n : Nat} (h : Edg D n) (hx : x.length = n) : Edg (Wr.wr D 3 x) n := by
  refine ⟨by rw [wr_length]; exact h.1, fun i hi hc => ?_⟩
  rw [← h.2 i hi hc, List.getD_eq_getElem?_getD, wr_get _ _ _ _ (by have := h.1; omega), if_neg (by omega), ← List.getD_eq_getElem?_getD]
theorem edg_of {D l : List Nat} {n : Nat} (hn : l.length = n) (hle : n + 15 ≤ D.length) (h : D.take (n + 15) = [201, 202, 203] ++ l ++ [204, 205, 206, 207, 208, 209, 210, 211, 212, 213, 214, 215]) : Edg D n ∧ (D.drop 3).take n = l := by
  have hg : ∀ i, i < n + 15 → D.getD i 0 = ([201, 202, 203] ++ l ++ [204, 205, 206, 207, 208, 209, 210, 211, 212, 213, 214, 215]).getD i 0 := fun i hi => by
    rw [← h]; simp [hi]
  refine ⟨⟨hle, fun i hi hc => ?_⟩, ?_⟩
  · rw [hg i hi]
    rcases hc with hc | hc
    · rw [if_pos hc]
      have : i = 0 ∨ i = 1 ∨ i = 2 := by omega
      rcases this with rfl | rfl | rfl <;> simp
    · rw [if_neg (by omega)]
      obtain ⟨k, rfl⟩ : ∃ k, i = 3 + n + k := ⟨i - (3 + n), by omega⟩
      have hk : k < 12 := by omega
      rw [List.getD_eq_getElem?_getD, List.getElem?_append_right (by simp; omega)]
      have e : 3 + n + k - ([201, 202, 203] ++ l).length = k := by simp; omega
      rw [e, show 201 + (3 + n + k) - n = 204 + k from by omega]
      have : k = 0 ∨ k = 1 ∨ k = 2 ∨ k = 3 ∨ k = 4 ∨ k = 5 ∨ k = 6 ∨ k = 7 ∨ k = 8 ∨ k = 9 ∨ k = 10 ∨ k = 11 := by omega
      rcases this with rfl | rfl | rfl | rfl | rfl | rfl | rfl | rfl | rfl | rfl | rfl | rfl <;> rfl
  · have := congrArg (fun k => (k.drop 3).take n) h
    simp only [List.drop_take] at this
    rw [List.take_take, show min n (n + 15 - 3) = n from by omega] at this
    rw [this]
    simp [← hn]

/-- What roomy hands back. -/
def RoomR (w : World) (n : Nat) (l : List Nat) (e : Ending) (w' : World) : Prop :=
  ∃ b D, e = .returned (.tuple #[.slice (some ⟨b, 0, none⟩) (n + 15 : Nat) D.length, .slice (some ⟨b, 3, none⟩) n (D.length - 3 : Nat)]) ∧ Edg D n ∧ (D.drop 3).take n = l ∧ B8 D ∧ D.length ≤ maxLen ∧ St w w' [] [bt b D]

end Go.Proofs.Ytdbfkjhdnbmpeaa.Sl
