/- Kinds of arguments under the bound of the '..UptoSaid' statements: what is read is of bulk at most 1048576. No program in sight. -/
import Derived.Test.YtadgjmlkpnifoaaRows
import Derived.Test.YtadgjmlkpnifoaaKk
import Derived.JoinedCond
namespace Go.Proofs.Ytadgjmlkpnifoaa.Ku
set_option linter.unusedSimpArgs false
set_option linter.unusedVariables false
open Go Go.RowKit Go.Proofs.Ytadgjmlkpnifoaa Go.Proofs.Ytadgjmlkpnifoaa.Kk

theorem one_le {H : Type} (d : DataW H) : 1 ≤ Rows.uptoBulk d := by
  cases d with
  | lit l => cases l <;> simp [Rows.uptoBulk]
  | nil => simp [Rows.uptoBulk]
  | ptr d => simp [Rows.uptoBulk]
  | slice elems spare => simp [Rows.uptoBulk]
  | agg parts => simp [Rows.uptoBulk]
  | iface t d => simp [Rows.uptoBulk]
  | map entries => simp [Rows.uptoBulk]
  | held h => simp [Rows.uptoBulk]
theorem part_le {H : Type} {d : DataW H} {l : List (DataW H)} (h : d ∈ l) : Rows.uptoBulk d ≤ Rows.uptoBulkAll l := by
  induction l with
  | nil => cases h
  | cons x r ih =>
    simp only [Rows.uptoBulkAll]
    cases List.mem_cons.1 h with
    | inl e => subst e; omega
    | inr e => have := ih e; omega
theorem length_le {H : Type} (l : List (DataW H)) : l.length ≤ Rows.uptoBulkAll l := by
  induction l with
  | nil => simp [Rows.uptoBulkAll]
  | cons x r ih => have := one_le x; simp only [Rows.uptoBulkAll, List.length_cons]; omega
theorem all_append {H : Type} (l r : List (DataW H)) : Rows.uptoBulkAll (l ++ r) = Rows.uptoBulkAll l + Rows.uptoBulkAll r := by
  induction l with
  | nil => simp [Rows.uptoBulkAll]
  | cons x l ih => simp only [List.cons_append, Rows.uptoBulkAll, ih]; omega

/-- A slice whose length is within the bound. -/
def kSliceU {α : Type} (d : K α) (bytes : Nat) : K (List α) where
  sz := 1
  ok := fun B w cs xs => (kSlice d bytes).ok B w cs xs ∧ xs.length ≤ 1048576
  keep := fun ⟨h, hl⟩ hb => ⟨(kSlice d bytes).keep h hb, hl⟩
/-- What the form's reader reads at type t within the bound is of this kind. -/
def OpensU {α : Type} (P : Program) (t : TypeId) (d : K α) : Prop :=
  P.cellsOf t = d.sz ∧ ∀ (H : Type) (enc : TypeId × Value → H) (w : World) (base : Nat) (spare : Nat → Bool) (held : Bool) (fuel : Nat) (cs : List Value) (x : DataW H × List MemPlace),
    DataW.trod enc P w base spare held fuel t cs = some x → Rows.uptoBulk x.1 ≤ 1048576 → ∃ a, d.ok w.heap.size w cs a
theorem opensU_int {P : Program} {t : TypeId} {k : IntKind} (ht : P.underlying t = some (.int k)) (hc : P.cellsOf t = 1) : OpensU P t (kInt k) := by
  refine ⟨hc, fun H enc w base spare held fuel cs x h _ => ?_⟩
  obtain ⟨n, rfl, _, hw⟩ := DataW.trod_int ht h
  exact ⟨n, rfl, hw⟩
theorem opensU_byte {P : Program} {t : TypeId} (ht : P.underlying t = some (.int .u8)) (hc : P.cellsOf t = 1) : OpensU P t kByte := by
  refine ⟨hc, fun H enc w base spare held fuel cs x h _ => ?_⟩
  obtain ⟨n, rfl, _, hw⟩ := DataW.trod_int ht h
  obtain ⟨h0, h1⟩ := bounds_u8 hw
  exact ⟨n.toNat, by rw [show ((n.toNat : Nat) : Int) = n from by omega], by omega⟩
theorem opensU_bool {P : Program} {t : TypeId} (ht : P.underlying t = some .bool) (hc : P.cellsOf t = 1) : OpensU P t kBool := by
  refine ⟨hc, fun H enc w base spare held fuel cs x h _ => ?_⟩
  obtain ⟨b, rfl, _⟩ := DataW.trod_bool ht h
  exact ⟨b, rfl⟩
theorem opensU_slice {α : Type} {P : Program} {t e : TypeId} {d : K α} {bytes : Nat} (ht : P.underlying t = some (.slice e)) (hc : P.cellsOf t = 1) (hpos : 0 < d.sz) (hB : bytes ≤ 4096) (hd : OpensU P e d) : OpensU P t (kSliceU d bytes) := by
  refine ⟨hc, fun H enc w base spare held fuel cs x h hw => ?_⟩
  obtain ⟨hsz, hop⟩ := hd
  rcases DataW.trod_slice ht h with ⟨rfl, rfl⟩ | ⟨a, len, cap, elems, rest, n, _, rfl, rfl, hb, hl, hm, hlen, hel, _, _⟩
  · exact ⟨[], ⟨none, 0, rfl, Nat.le_refl _, Nat.zero_le _, by simp, fun h0 => absurd h0 (by simp)⟩, by simp⟩
  · simp only [Rows.uptoBulk] at hw
    have hbl := length_le (elems.map (·.1))
    rw [List.length_map] at hbl
    have hlu : len ≤ 1048576 := by omega
    have hw1 : len * bytes ≤ reachBytes := by
      have := Nat.mul_le_mul hlu hB
      unfold reachBytes; omega
    have hel2 : ∀ i, i < len → ∃ cs' z, w.cells? base (a.add (i * P.cellsOf e)) (P.cellsOf e) = some cs' ∧ d.ok w.heap.size w cs' z := by
      intro i hi
      have hk := hel i hi
      rw [List.getElem?_eq_getElem (by omega)] at hk
      obtain ⟨cs', h1, h2⟩ := Option.bind_eq_some_iff.1 hk
      obtain ⟨z, hz⟩ := hop H enc w base spare held n cs' _ h2 (by
        have := part_le (d := (elems[i]'(by omega)).1) (l := elems.map (·.1)) (List.mem_map.2 ⟨_, List.getElem_mem _, rfl⟩)
        omega)
      exact ⟨cs', z, h1, hz⟩
    by_cases h0 : len = 0
    · subst h0
      exact ⟨[], ⟨some a, cap, rfl, by simp, hm, by simp, fun h0 => absurd h0 (by simp)⟩, by simp⟩
    · obtain ⟨cs0, z0, hc0, _⟩ := hel2 0 (by omega)
      have hz' : ∀ i, ∃ z, i < len → ∃ cs', w.cells? base (a.add (i * P.cellsOf e)) (P.cellsOf e) = some cs' ∧ d.ok w.heap.size w cs' z := by
        intro i
        by_cases hi : i < len
        · obtain ⟨cs', z, h1, h2⟩ := hel2 i hi
          exact ⟨z, fun _ => ⟨cs', h1, h2⟩⟩
        · exact ⟨z0, fun h => absurd h hi⟩
      have hsp : a.spot = none := by
        have := cells_spot hc0 (by omega)
        simpa [Addr.add] using this
      have hlt : a.block < w.heap.size := by
        have := World.cells?_block hc0 (by omega)
        simpa [Addr.add] using this
      refine ⟨(List.range len).map (fun i => Classical.choose (hz' i)), ⟨some a, cap, by simp, by simpa using hl, hm, ?_, fun _ => ⟨a.block, a.off, ?_, hlt, fun i hi => ?_⟩⟩, by simpa using hlu⟩
      · rw [List.length_map, List.length_range]
        exact hw1
      · cases a; simp only at hsp; subst hsp; rfl
      · have hi' : i < len := by simpa using hi
        obtain ⟨cs', h1, h2⟩ := Classical.choose_spec (hz' i) hi'
        refine ⟨cs', by simpa using h2, fun j v hv => ?_⟩
        have := cells_get h1 hv
        rw [hsz] at this
        have e : (a.add (i * d.sz)).add j = ⟨a.block, a.off + (i * d.sz + j), none⟩ := by
          cases a
          simp only at hsp
          subst hsp
          simp only [Addr.add]
          by_cases h3 : i * d.sz = 0 <;> by_cases h4 : j = 0 <;> simp [h3, h4, Nat.add_assoc]
        rwa [e] at this
/-- The fields of a struct from an offset on. -/
def OpensFsU {α : Type} (P : Program) (fs : List Field) (off : Nat) (d : K α) : Prop :=
  ∀ (H : Type) (enc : TypeId × Value → H) (w : World) (base : Nat) (spare : Nat → Bool) (held : Bool) (fuel : Nat) (cs : List Value) (xs : List (DataW H × List MemPlace)),
    cs.length = off + d.sz → (∀ (i : Nat) (f : Field), fs[i]? = some f → DataW.trod enc P w base spare held fuel f.type ((cs.drop f.offset).take (P.cellsOf f.type)) = xs[i]?) → xs.length = fs.length →
    Rows.uptoBulkAll (xs.map (·.1)) ≤ 1048576 → ∃ a, d.ok w.heap.size w (cs.drop off) a
theorem opensFsU_nil {P : Program} {off : Nat} : OpensFsU P [] off kUnit := by
  intro H enc w base spare held fuel cs xs hl _ _ _
  exact ⟨(), by show cs.drop off = []; rw [List.drop_eq_nil_iff]; rw [hl]; exact Nat.le_refl _⟩
theorem opensFsU_cons {α β : Type} {P : Program} {f : Field} {fs : List Field} {off : Nat} {d : K α} {e : K β} (ho : f.offset = off) (hd : OpensU P f.type d) (he : OpensFsU P fs (off + d.sz) e) : OpensFsU P (f :: fs) off (kPair d e) := by
  intro H enc w base spare held fuel cs xs hl hf hx hw
  cases xs with
  | nil => simp at hx
  | cons x xs =>
    obtain ⟨hsz, hop⟩ := hd
    have h0 := hf 0 f rfl
    simp only [List.getElem?_cons_zero] at h0
    simp only [List.map_cons, Rows.uptoBulkAll] at hw
    obtain ⟨a, ha⟩ := hop H enc w base spare held fuel _ _ h0 (by omega)
    obtain ⟨b, hb⟩ := he H enc w base spare held fuel cs xs (by rw [hl]; show off + (d.sz + e.sz) = _; omega) (fun i g hg => by have := hf (i + 1) g (by simpa using hg); simpa using this) (by simpa using hx) (by omega)
    rw [ho, hsz] at ha
    have hl' : cs.length = off + (d.sz + e.sz) := hl
    exact ⟨(a, b), _, _, by rw [← List.drop_drop]; exact (List.take_append_drop _ _).symm, by rw [List.length_take, List.length_drop]; omega, ha, hb⟩
theorem opensU_struct {α : Type} {P : Program} {t : TypeId} {fs : Array Field} {d : K α} (ht : P.underlying t = some (.struct fs)) (hc : P.cellsOf t = d.sz) (h : OpensFsU P fs.toList 0 d) : OpensU P t d := by
  refine ⟨hc, fun H enc w base spare held fuel cs x hx hw => ?_⟩
  obtain ⟨xs, n, _, rfl, hl, hlen, hf⟩ := DataW.trod_struct ht hx
  simp only [Rows.uptoBulk] at hw
  obtain ⟨a, ha⟩ := h H enc w base spare held n cs xs (by rw [hl, hc]; omega) (fun i f hif => hf i f (by simpa using hif)) (by simpa using hlen) (Nat.le_of_succ_le hw)
  exact ⟨a, by simpa using ha⟩
/-- An argument, opened. -/
theorem opensU_arg {α H : Type} {enc : TypeId × Value → H} {P : Program} {w : World} {base : Nat} {spare : Nat → Bool} {held : Bool} {t : TypeId} {v : Value} {x : DataW H} {ps : List MemPlace} {d : K α} {ds gs : List (DataW H)}
    (hd : OpensU P t d) (h : DataW.Trod enc P w base spare held t v x ps) (hk : Rows.uptoSmall H (ds ++ gs) = true) (hx : x ∈ ds) : ∃ a, d.ok w.heap.size w v.cells.toList a := by
  obtain ⟨fuel, hf⟩ := h
  have h1 : Rows.uptoBulkAll (ds ++ gs) ≤ 1048576 := of_decide_eq_true hk
  rw [all_append] at h1
  have h2 := part_le hx
  exact hd.2 H enc w base spare held fuel _ _ hf (Nat.le_trans h2 (Nat.le_trans (Nat.le_add_right _ _) h1))

end Go.Proofs.Ytadgjmlkpnifoaa.Ku
