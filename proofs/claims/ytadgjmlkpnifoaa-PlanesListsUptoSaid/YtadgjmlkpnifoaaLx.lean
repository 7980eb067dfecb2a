/- A region that draws its order, long: that its operations can be taken in the text's order, by a cheaper check than the library's. No program in sight. -/
import Derived.Test.YtadgjmlkpnifoaaWr
import Derived.Still
namespace Go.Proofs.Ytadgjmlkpnifoaa.St
set_option linter.unusedSimpArgs false
set_option linter.unusedVariables false
open Go Go.RowKit Go.Proofs.Ytadgjmlkpnifoaa

/-- What each operation waits for stands ahead of it. -/
def chkA (md : Region.Mode) : Nat → List Oper → Bool
  | _, [] => true
  | k, o :: rest => (o.after.all fun e => !Region.binds md e || decide (e.on < k)) && chkA md (k + 1) rest
/-- An operation against all behind it. -/
def chkO (md : Region.Mode) (ops : Array Oper) (k : Nat) (o : Oper) : List Oper → Bool
  | [] => true
  | p :: rest => ((p.after.any fun e => Region.binds md e && e.on == k) || o.apart ops p) && chkO md ops k o rest
def chkF (md : Region.Mode) (ops : Array Oper) : Nat → List Oper → Bool
  | _, [] => true
  | k, o :: rest => chkO md ops k o rest && chkF md ops (k + 1) rest

theorem chkA_get {md : Region.Mode} : ∀ {l : List Oper} {k i : Nat} {o : Oper}, chkA md k l = true → l[i]? = some o → (o.after.all fun e => !Region.binds md e || decide (e.on < k + i)) = true
  | [], _, _, _, _, h => by simp at h
  | x :: l, k, 0, o, h, hi => by
    simp at hi; subst hi
    simp only [chkA, Bool.and_eq_true] at h
    exact h.1
  | x :: l, k, i + 1, o, h, hi => by
    simp only [chkA, Bool.and_eq_true] at h
    have := chkA_get h.2 (i := i) (by simpa using hi)
    rw [show k + (i + 1) = k + 1 + i by omega]; exact this
theorem chkO_get {md : Region.Mode} {ops : Array Oper} {k : Nat} {o : Oper} : ∀ {l : List Oper} {j : Nat} {p : Oper}, chkO md ops k o l = true → l[j]? = some p → ((p.after.any fun e => Region.binds md e && e.on == k) || o.apart ops p) = true
  | [], _, _, _, h => by simp at h
  | x :: l, 0, p, h, hi => by
    simp at hi; subst hi
    simp only [chkO, Bool.and_eq_true] at h
    exact h.1
  | x :: l, j + 1, p, h, hi => by
    simp only [chkO, Bool.and_eq_true] at h
    exact chkO_get h.2 (by simpa using hi)
theorem chkF_get {md : Region.Mode} {ops : Array Oper} : ∀ {l : List Oper} {k i j : Nat} {o p : Oper}, chkF md ops k l = true → l[i]? = some o → i < j → l[j]? = some p → ((p.after.any fun e => Region.binds md e && e.on == k + i) || o.apart ops p) = true
  | [], _, _, _, _, _, _, h, _, _ => by simp at h
  | x :: l, k, 0, j, o, p, h, hi, hij, hj => by
    simp at hi; subst hi
    simp only [chkF, Bool.and_eq_true] at h
    obtain ⟨j, rfl⟩ : ∃ j', j = j' + 1 := ⟨j - 1, by omega⟩
    exact chkO_get h.1 (by simpa using hj)
  | x :: l, k, i + 1, j, o, p, h, hi, hij, hj => by
    simp only [chkF, Bool.and_eq_true] at h
    obtain ⟨j, rfl⟩ : ∃ j', j = j' + 1 := ⟨j - 1, by omega⟩
    have := chkF_get h.2 (i := i) (j := j) (by simpa using hi) (by omega) (by simpa using hj)
    rw [show k + (i + 1) = k + 1 + i by omega]; exact this

theorem lexFrom_of {md : Region.Mode} {l : List Oper} (hA : chkA md 0 l = true) (hF : chkF md l.toArray 0 l = true) : ∀ (fuel k : Nat) (listed : Array Bool), k + fuel = l.length → listed.size = l.length →
    (∀ j, j < l.length → listed[j]? = some (decide (j < k))) → Region.lexFrom md l.toArray fuel k listed = true
  | 0, k, listed, hk, hs, hl => by
    simp only [Region.lexFrom, List.isEmpty_iff, Region.ready, List.filter_eq_nil_iff, List.mem_range, List.size_toArray]
    intro j hj
    have := hl j hj
    have e : listed.getD j true = true := by
      rw [Array.getD_eq_getD_getElem?, this]; simp; omega
    simp [e]
  | fuel + 1, k, listed, hk, hs, hl => by
    have hk' : k < l.length := by omega
    have ho : l[k]? = some l[k] := by simp [hk']
    simp only [Region.lexFrom, Bool.and_eq_true]
    refine ⟨⟨?_, ?_⟩, ?_⟩
    · rw [List.contains_iff_mem, Region.ready, List.mem_filter, List.mem_range, List.size_toArray]
      refine ⟨hk', ?_⟩
      have e : listed.getD k true = false := by rw [Array.getD_eq_getD_getElem?, hl k hk']; simp
      rw [e, List.getElem?_toArray, ho]
      simp only [Bool.not_false, Bool.true_and, Option.map_some, Option.getD_some]
      have h1 := chkA_get hA ho
      rw [Nat.zero_add] at h1
      rw [Array.all_eq_true] at h1 ⊢
      intro i hi
      have h2 := h1 i hi
      rw [Bool.or_eq_true] at h2 ⊢
      refine h2.imp id fun h3 => ?_
      have h4 := of_decide_eq_true h3
      rw [Array.getD_eq_getD_getElem?, hl _ (by omega)]
      simp [h4]
    · unfold Region.free
      rw [List.getElem?_toArray, ho]
      simp only [List.all_eq_true, List.mem_range, List.size_toArray]
      intro j hj
      by_cases h1 : j = k
      · simp [h1]
      · by_cases h2 : j < k
        · have e : listed.getD j true = true := by rw [Array.getD_eq_getD_getElem?, hl j hj]; simp [h2]
          simp [e]
        · have hj' : l[j]? = some l[j] := by simp [hj]
          have := chkF_get hF ho (by omega) hj'
          rw [Nat.zero_add] at this
          rw [List.getElem?_toArray, hj']
          simp only [Bool.or_eq_true] at this ⊢
          exact .inr this
    · refine lexFrom_of hA hF fuel (k + 1) _ (by omega) (by simpa using hs) fun j hj => ?_
      rw [Array.getElem?_setIfInBounds]
      by_cases h1 : k = j
      · subst h1
        rw [if_pos rfl, if_pos (by omega)]
        simp
      · rw [if_neg h1, hl j hj]
        congr 1
        simp only [decide_eq_decide]; omega
theorem lexB_of {md : Region.Mode} {l : List Oper} (hN : Region.noSelect l.toArray = true) (hA : chkA md 0 l = true) (hF : chkF md l.toArray 0 l = true) : Region.lexB md l.toArray = true := by
  unfold Region.lexB
  rw [hN, Bool.true_and]
  exact lexFrom_of hA hF _ 0 _ (by simp) (by simp) (fun j hj => by simp [hj])

end Go.Proofs.Ytadgjmlkpnifoaa.St
