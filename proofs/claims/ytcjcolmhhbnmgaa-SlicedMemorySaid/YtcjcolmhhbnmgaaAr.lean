/- An array of bytes among the arguments. No program in sight. -/
import Derived.Test.YtcjcolmhhbnmgaaOb
namespace Go.Proofs.Ytcjcolmhhbnmgaa.Ar
set_option linter.unusedSimpArgs false
set_option linter.unusedVariables false
open Go Go.RowKit Go.Proofs.Ytcjcolmhhbnmgaa Go.Proofs.Ytcjcolmhhbnmgaa.Mm Go.Proofs.Ytcjcolmhhbnmgaa.Wr Go.Proofs.Ytcjcolmhhbnmgaa.Kk

/-- An array of n bytes. -/
def kArrB (n : Nat) : K (List Nat) where
  sz := n
  ok := fun _ _ cs l => l.length = n ∧ cs = l.map (fun (x : Nat) => Value.int .u8 (x : Int)) ∧ B8 l
  keep := fun h _ => h
theorem opens_arrB {P : Program} {t e : TypeId} {n : Nat} (ht : P.underlying t = some (.array n e)) (hc : P.cellsOf t = n) (he : P.underlying e = some (.int .u8)) (hce : P.cellsOf e = 1) : Opens P t (kArrB n) := by
  refine ⟨hc, fun H enc w base spare held fuel cs x hx hw => ?_⟩
  obtain ⟨xs, m, _, _, hl, hlen, hf⟩ := DataW.trod_array ht hx
  have hcl : cs.length = n := by rw [hl, hc]
  have key : ∀ i, ∃ a : Nat, i < n → cs[i]? = some (Value.int .u8 (a : Int)) ∧ a < 256 := by
    intro i
    by_cases hi : i < n
    · have h := hf i hi
      rw [hce, Nat.mul_one, List.getElem?_eq_getElem (by omega)] at h
      obtain ⟨v, hv, _, hwf⟩ := DataW.trod_int he h
      have hv0 : cs[i]? = some (Value.int .u8 v) := by
        have := congrArg (fun l => l[0]?) hv
        simpa [List.getElem?_take, List.getElem?_drop] using this
      have hb : 0 ≤ v ∧ v < 256 := by
        simp [Lit.wf, IntKind.min, IntKind.max, IntKind.bits, IntKind.signed] at hwf
        omega
      exact ⟨v.toNat, fun _ => ⟨by rw [hv0, Int.toNat_of_nonneg hb.1], by omega⟩⟩
    · exact ⟨0, fun h => absurd h hi⟩
  refine ⟨(List.range n).map fun i => Classical.choose (key i), by simp, ?_, fun y hy => ?_⟩
  · apply List.ext_getElem?
    intro i
    by_cases hi : i < n
    · rw [(Classical.choose_spec (key i) hi).1]
      simp [hi]
    · rw [List.getElem?_eq_none (by omega), List.getElem?_eq_none (by simp; omega)]
  · obtain ⟨i, hi, rfl⟩ := List.mem_map.1 hy
    exact (Classical.choose_spec (key i) (by simpa using hi)).2
theorem arr_of {B : Nat} {w : World} {n : Nat} {cs : Array Value} {l : List Nat} (h : (kArrB n).ok B w cs.toList l) : cs = row .u8 l ∧ l.length = n ∧ B8 l := by
  obtain ⟨h1, h2, h3⟩ := h
  refine ⟨?_, h1, h3⟩
  rw [← Array.toArray_toList (xs := cs), h2]; rfl
theorem okWide_arr {P : Program} {w : World} {r : Reach} {base : Nat} {t e : TypeId} {n : Nat} {v : Value} (ht : P.underlying t = some (.array n e)) (h : Value.okWide P w r base t v) : ∃ cs, v = .agg cs := by
  simp only [Value.okWide, ht] at h
  obtain ⟨cs, h1, _⟩ := h
  exact ⟨cs, h1⟩

end Go.Proofs.Ytcjcolmhhbnmgaa.Ar
