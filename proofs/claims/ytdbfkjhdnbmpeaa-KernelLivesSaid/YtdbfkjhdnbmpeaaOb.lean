/- A slice argument of bytes, opened. -/
import Derived.Test.YtdbfkjhdnbmpeaaKk
import Derived.Test.YtdbfkjhdnbmpeaaWr
namespace Go.Proofs.Ytdbfkjhdnbmpeaa.St
set_option linter.unusedSimpArgs false
set_option linter.unusedVariables false
open Go Go.RowKit Go.Proofs.Ytdbfkjhdnbmpeaa Go.Proofs.Ytdbfkjhdnbmpeaa.Mm Go.Proofs.Ytdbfkjhdnbmpeaa.Wr

/-- A slice argument of bytes, opened. -/
theorem open_bytes {B : Nat} {w : World} {A : Option Addr} {n c : Nat} {l : List Nat} (h : (Kk.kSlice Kk.kByte 1).ok B w [.slice A n c] l) : l.length = n ∧ n ≤ 140737488351232 ∧ n ≤ c ∧ Rd w A l ∧ B8 l ∧ (∀ a, A = some a → 0 < n → a.block < B) := by
  obtain ⟨A', c', he, hlc, _, hr, hrow⟩ := h
  injection he with he _
  injection he with e1 e2 e3
  subst e1 e2 e3
  refine ⟨rfl, by unfold reachBytes at hr; omega, hlc, fun h0 => ?_, fun x hx => ?_, fun a ha h0 => ?_⟩
  · obtain ⟨b, off, hA, _, hc⟩ := hrow h0
    refine ⟨b, off, hA, fun i hi => ?_⟩
    obtain ⟨cs, ⟨rfl, _⟩, hcell⟩ := hc i hi
    have := hcell 0 _ rfl
    have e : l.getD i 0 = l[i] := by simp [hi]
    rw [e]
    simpa [Kk.kByte] using this
  · obtain ⟨i, hi, rfl⟩ := List.getElem_of_mem hx
    obtain ⟨b, off, hA, _, hc⟩ := hrow (by omega)
    obtain ⟨cs, ⟨_, hok⟩, _⟩ := hc i hi
    exact hok
  · obtain ⟨b, off, hA, hb, _⟩ := hrow h0
    rw [hA] at ha
    injection ha with ha
    rw [← ha]; exact hb

/-- A list of whole numbers of a kind behind an address. -/
def RdI (k : IntKind) (w : World) (A : Option Addr) (l : List Int) : Prop :=
  0 < l.length → ∃ b off, A = some ⟨b, off, none⟩ ∧ ∀ i, i < l.length → w.cell? ⟨b, off + i, none⟩ = some (.int k (l.getD i 0))
/-- .. of natural numbers. -/
def RdN (k : IntKind) (w : World) (A : Option Addr) (l : List Nat) : Prop :=
  0 < l.length → ∃ b off, A = some ⟨b, off, none⟩ ∧ ∀ i, i < l.length → w.cell? ⟨b, off + i, none⟩ = some (.int k ((l.getD i 0 : Nat) : Int))
theorem RdI.below {k : IntKind} {w w' : World} {A : Option Addr} {l : List Int} (h : RdI k w A l) (hb : Below w.heap.size w w') : RdI k w' A l := by
  intro h0
  obtain ⟨b, o, hA, hc⟩ := h h0
  exact ⟨b, o, hA, fun i hi => by rw [hb.cell (p := ⟨b, o + i, none⟩) (cell_lt (hc i hi))]; exact hc i hi⟩
theorem RdN.below {k : IntKind} {w w' : World} {A : Option Addr} {l : List Nat} (h : RdN k w A l) (hb : Below w.heap.size w w') : RdN k w' A l := by
  intro h0
  obtain ⟨b, o, hA, hc⟩ := h h0
  exact ⟨b, o, hA, fun i hi => by rw [hb.cell (p := ⟨b, o + i, none⟩) (cell_lt (hc i hi))]; exact hc i hi⟩
theorem RdN.drewN {k : IntKind} {w : World} {A : Option Addr} {l : List Nat} (n : Nat) (h : RdN k w A l) : RdN k (w.drewN n) A l := h
theorem RdI.drewN {k : IntKind} {w : World} {A : Option Addr} {l : List Int} (n : Nat) (h : RdI k w A l) : RdI k (w.drewN n) A l := h
theorem RdN.of_blk {k : IntKind} {w : World} {b : Nat} {t : TypeId} {l : List Nat} (h : Blk w b t (row k l)) : RdN k w (some ⟨b, 0, none⟩) l :=
  fun _ => ⟨b, 0, rfl, fun i hi => by rw [Nat.zero_add]; exact h.cell (row_get hi)⟩
theorem RdN.piece {k : IntKind} {w : World} {b o : Nat} {l : List Nat} (r : RdN k w (some ⟨b, o, none⟩) l) (i n : Nat) : RdN k w (some ⟨b, o + i, none⟩) ((l.drop i).take n) := by
  intro h
  rw [List.length_take, List.length_drop] at h
  obtain ⟨b', o', e, hc⟩ := r (by omega)
  injection e with e
  injection e with e1 e2 _
  subst e1 e2
  refine ⟨_, _, rfl, fun j hj => ?_⟩
  rw [List.length_take, List.length_drop] at hj
  have := hc (i + j) (by omega)
  rw [Nat.add_assoc, this]
  congr 3
  simp [show j < n by omega]
/-- All numbers of the list are of this kind. -/
def WF (k : IntKind) (l : List Int) : Prop := ∀ x ∈ l, (Lit.int k x).wf = true
theorem WF.get {k : IntKind} {l : List Int} (h : WF k l) {i : Nat} (hi : i < l.length) : (Lit.int k (l.getD i 0)).wf = true := by
  have e : l.getD i 0 = l[i] := by simp [hi]
  rw [e]; exact h _ (List.getElem_mem hi)
theorem wf_i64 {x : Int} (h : (Lit.int .i64 x).wf = true) : -9223372036854775808 ≤ x ∧ x ≤ 9223372036854775807 := by
  have h' : IntKind.i64.min ≤ x ∧ x ≤ IntKind.i64.max := by simpa [Lit.wf] using h
  have e1 : IntKind.i64.min = -9223372036854775808 := by decide
  have e2 : IntKind.i64.max = 9223372036854775807 := by decide
  rw [e1, e2] at h'; omega
theorem wf_u64 {x : Int} (h : (Lit.int .u64 x).wf = true) : 0 ≤ x ∧ x < 18446744073709551616 := by
  have h' : IntKind.u64.min ≤ x ∧ x ≤ IntKind.u64.max := by simpa [Lit.wf] using h
  have e1 : IntKind.u64.min = 0 := by decide
  have e2 : IntKind.u64.max = 18446744073709551615 := by decide
  rw [e1, e2] at h'; omega
theorem wf_u16 {x : Int} (h : (Lit.int .u16 x).wf = true) : 0 ≤ x ∧ x < 65536 := by
  have h' : IntKind.u16.min ≤ x ∧ x ≤ IntKind.u16.max := by simpa [Lit.wf] using h
  have e1 : IntKind.u16.min = 0 := by decide
  have e2 : IntKind.u16.max = 65535 := by decide
  rw [e1, e2] at h'; omega
/-- A slice argument of whole numbers, opened. -/
theorem open_ints {k : IntKind} {by_ : Nat} {B : Nat} {w : World} {A : Option Addr} {n c : Nat} {l : List Int} (h : (Kk.kSlice (Kk.kInt k) by_).ok B w [.slice A n c] l) : l.length = n ∧ n * by_ ≤ 140737488351232 ∧ n ≤ c ∧ c ≤ maxLen ∧ RdI k w A l ∧ WF k l := by
  obtain ⟨A', c', he, hlc, hcm, hr, hrow⟩ := h
  injection he with he _
  injection he with e1 e2 e3
  subst e1 e2 e3
  refine ⟨rfl, by unfold reachBytes at hr; omega, hlc, hcm, fun h0 => ?_, fun x hx => ?_⟩
  · obtain ⟨b, off, hA, _, hc⟩ := hrow h0
    refine ⟨b, off, hA, fun i hi => ?_⟩
    obtain ⟨cs, ⟨rfl, _⟩, hcell⟩ := hc i hi
    have := hcell 0 _ rfl
    have e : l.getD i 0 = l[i] := by simp [hi]
    rw [e]
    simpa [Kk.kInt] using this
  · obtain ⟨i, hi, rfl⟩ := List.getElem_of_mem hx
    obtain ⟨b, off, hA, _, hc⟩ := hrow (by omega)
    obtain ⟨cs, ⟨_, hok⟩, _⟩ := hc i hi
    exact hok
/-- .. of words: as natural numbers below b. -/
theorem open_nats {k : IntKind} {by_ b0 : Nat} {B : Nat} {w : World} {A : Option Addr} {n c : Nat} {l : List Int} (hk : ∀ x : Int, (Lit.int k x).wf = true → 0 ≤ x ∧ x < (b0 : Int)) (h : (Kk.kSlice (Kk.kInt k) by_).ok B w [.slice A n c] l) :
    ∃ l' : List Nat, l'.length = n ∧ n * by_ ≤ 140737488351232 ∧ n ≤ c ∧ c ≤ maxLen ∧ RdN k w A l' ∧ ∀ x ∈ l', x < b0 := by
  obtain ⟨h1, h2, h3, h4, h5, h6⟩ := open_ints h
  refine ⟨l.map Int.toNat, by rw [List.length_map]; exact h1, h2, h3, h4, fun h0 => ?_, fun x hx => ?_⟩
  · rw [List.length_map] at h0
    obtain ⟨b, o, hA, hc⟩ := h5 h0
    refine ⟨b, o, hA, fun i hi => ?_⟩
    rw [List.length_map] at hi
    rw [hc i hi]
    have := hk _ (h6.get hi)
    have e : (l.map Int.toNat).getD i 0 = (l.getD i 0).toNat := by simp [hi]
    rw [e, Int.toNat_of_nonneg this.1]
  · obtain ⟨y, hy, rfl⟩ := List.mem_map.1 hx
    have := hk _ (h6 y hy)
    omega

end Go.Proofs.Ytdbfkjhdnbmpeaa.St
