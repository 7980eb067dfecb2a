/- A slice argument of bytes, opened. -/
import Derived.Test.YtcjcolmhhbnmgaaKk
import Derived.Test.YtcjcolmhhbnmgaaWr
namespace Go.Proofs.Ytcjcolmhhbnmgaa.St
open Go Go.RowKit Go.Proofs.Ytcjcolmhhbnmgaa Go.Proofs.Ytcjcolmhhbnmgaa.Mm Go.Proofs.Ytcjcolmhhbnmgaa.Wr

/-- A slice argument of bytes, opened. -/
theorem open_bytes {B : Nat} {w : World} {A : Option Addr} {n c : Nat} {l : List Nat} (h : (Kk.kSlice Kk.kByte 1).ok B w [.slice A n c] l) : l.length = n ∧ n ≤ 140737488351232 ∧ n ≤ c ∧ Rd w A l ∧ B8 l ∧ (∀ a, A = some a → 0 < n → a.block < B) := by
  obtain ⟨A', c', he, hlc, _, hr, hrow⟩ := h
  injection he with he _
  injection he with e1 e2 e3
  subst e1 e2 e3
  refine ⟨rfl, by unfold reachBytes at hr; omega, hlc, fun h0 => ?_, fun x hx => ?_, fun a ha h0 => ?_⟩
  · obtain ⟨b, off, hA, _, hc⟩ := hrow h0
    refine ⟨b, off, hA, fun i hi => ?_⟩
    obtain ⟨cs, ⟨rfl, _⟩, hcell⟩ := hc i hi
    have := hcell 0 _ rfl
    have e : l.getD i 0 = l[i] := by simp [hi]
    rw [e]
    simpa [Kk.kByte] using this
  · obtain ⟨i, hi, rfl⟩ := List.getElem_of_mem hx
    obtain ⟨b, off, hA, _, hc⟩ := hrow (by omega)
    obtain ⟨cs, ⟨_, hok⟩, _⟩ := hc i hi
    exact hok
  · obtain ⟨b, off, hA, hb, _⟩ := hrow h0
    rw [hA] at ha
    injection ha with ha
    rw [← ha]; exact hb

end Go.Proofs.Ytcjcolmhhbnmgaa.St
