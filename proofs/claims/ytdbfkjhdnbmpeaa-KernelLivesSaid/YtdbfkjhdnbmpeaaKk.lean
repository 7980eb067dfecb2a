/- How the arguments read: kinds of data (numbers, bools, slices, structs), what it means that some cells hold a datum, that a new world which leaves the old blocks alone leaves it, and that the form's reader gives it. No program in sight. -/
import Derived.Below
import Derived.OpenShut
import Derived.SizedLaws
import Derived.Deep.Slices
namespace Go.Proofs.Ytdbfkjhdnbmpeaa.Kk
set_option linter.unusedSimpArgs false
set_option linter.unusedVariables false
open Go Go.RowKit

/-- A kind of data: how many cells it takes; when cells hold a datum (all blocks that it leads to lie below B). -/
structure K (α : Type) where
  sz : Nat
  ok : Nat → World → List Value → α → Prop
  keep : ∀ {B : Nat} {w w' : World} {cs : List Value} {a : α}, ok B w cs a → Below B w w' → ok B w' cs a

/-- A row of data behind an address. -/
def Row {α : Type} (d : K α) (B : Nat) (w : World) (A : Option Addr) (xs : List α) : Prop :=
  0 < xs.length → ∃ b off, A = some ⟨b, off, none⟩ ∧ b < B ∧ ∀ i (h : i < xs.length), ∃ cs, d.ok B w cs xs[i] ∧ ∀ j v, cs[j]? = some v → w.cell? ⟨b, off + (i * d.sz + j), none⟩ = some v

theorem Row.keep {α : Type} {d : K α} {B : Nat} {w w' : World} {A : Option Addr} {xs : List α} (h : Row d B w A xs) (hb : Below B w w') : Row d B w' A xs := by
  intro h0
  obtain ⟨b, off, hA, hlt, hc⟩ := h h0
  refine ⟨b, off, hA, hlt, fun i hi => ?_⟩
  obtain ⟨cs, hok, hcell⟩ := hc i hi
  exact ⟨cs, d.keep hok hb, fun j v hv => by rw [hb.cell (p := ⟨b, _, none⟩) hlt]; exact hcell j v hv⟩

def kInt (k : IntKind) : K Int where
  sz := 1
  ok := fun _ _ cs n => cs = [.int k n] ∧ (Lit.int k n).wf = true
  keep := fun h _ => h
def kByte : K Nat where
  sz := 1
  ok := fun _ _ cs n => cs = [.int .u8 (n : Int)] ∧ n < 256
  keep := fun h _ => h
def kNat (k : IntKind) : K Nat where
  sz := 1
  ok := fun _ _ cs n => cs = [.int k (n : Int)] ∧ (Lit.int k (n : Int)).wf = true
  keep := fun h _ => h
def kBool : K Bool where
  sz := 1
  ok := fun _ _ cs b => cs = [.bool b]
  keep := fun h _ => h
/-- A slice: its elements; 'bytes': how wide one is. -/
def kSlice {α : Type} (d : K α) (bytes : Nat) : K (List α) where
  sz := 1
  ok := fun B w cs xs => ∃ A c, cs = [.slice A xs.length c] ∧ xs.length ≤ c ∧ c ≤ maxLen ∧ xs.length * bytes ≤ reachBytes ∧ Row d B w A xs
  keep := fun ⟨A, c, h1, h2, h3, h4, h5⟩ hb => ⟨A, c, h1, h2, h3, h4, h5.keep hb⟩
def kUnit : K Unit where
  sz := 0
  ok := fun _ _ cs _ => cs = []
  keep := fun h _ => h
/-- One datum behind another: the fields of a struct. -/
def kPair {α β : Type} (a : K α) (b : K β) : K (α × β) where
  sz := a.sz + b.sz
  ok := fun B w cs x => ∃ c1 c2, cs = c1 ++ c2 ∧ c1.length = a.sz ∧ a.ok B w c1 x.1 ∧ b.ok B w c2 x.2
  keep := fun ⟨c1, c2, h1, h2, h3, h4⟩ hb => ⟨c1, c2, h1, h2, a.keep h3 hb, b.keep h4 hb⟩

/-- What the form's reader reads at type t is of this kind. -/
def Opens {α : Type} (P : Program) (t : TypeId) (d : K α) : Prop :=
  P.cellsOf t = d.sz ∧ ∀ (H : Type) (enc : TypeId × Value → H) (w : World) (base : Nat) (spare : Nat → Bool) (held : Bool) (fuel : Nat) (cs : List Value) (x : DataW H × List MemPlace),
    DataW.trod enc P w base spare held fuel t cs = some x → (∀ n ∈ x.1.weights P t, n ≤ reachBytes) → ∃ a, d.ok w.heap.size w cs a

theorem opens_int {P : Program} {t : TypeId} {k : IntKind} (ht : P.underlying t = some (.int k)) (hc : P.cellsOf t = 1) : Opens P t (kInt k) := by
  refine ⟨hc, fun H enc w base spare held fuel cs x h _ => ?_⟩
  obtain ⟨n, rfl, _, hw⟩ := DataW.trod_int ht h
  exact ⟨n, rfl, hw⟩
theorem opens_byte {P : Program} {t : TypeId} (ht : P.underlying t = some (.int .u8)) (hc : P.cellsOf t = 1) : Opens P t kByte := by
  refine ⟨hc, fun H enc w base spare held fuel cs x h _ => ?_⟩
  obtain ⟨n, rfl, _, hw⟩ := DataW.trod_int ht h
  obtain ⟨h0, h1⟩ := bounds_u8 hw
  exact ⟨n.toNat, by rw [show ((n.toNat : Nat) : Int) = n from by omega], by omega⟩
theorem opens_bool {P : Program} {t : TypeId} (ht : P.underlying t = some .bool) (hc : P.cellsOf t = 1) : Opens P t kBool := by
  refine ⟨hc, fun H enc w base spare held fuel cs x h _ => ?_⟩
  obtain ⟨b, rfl, _⟩ := DataW.trod_bool ht h
  exact ⟨b, rfl⟩

theorem weightsAll_mem {H : Type} {P : Program} {e : TypeId} : ∀ {l : List (DataW H)} {d : DataW H} {n : Nat}, d ∈ l → n ∈ d.weights P e → n ∈ DataW.weightsAll P e l
  | y :: l, d, n, hd, hn => by
    rw [DataW.weightsAll, List.mem_append]
    rcases List.mem_cons.1 hd with rfl | hd
    · exact .inl hn
    · exact .inr (weightsAll_mem hd hn)
  | [], _, _, hd, _ => by cases hd

theorem cells_spot {w : World} {base : Nat} {a : Addr} {n : Nat} {cs : List Value} (h : w.cells? base a n = some cs) (hn : 0 < n) : a.spot = none := by
  unfold World.cells? at h
  split at h
  · obtain ⟨v, hv⟩ : ∃ v, w.cell? (a.add 0) = some v := by
      have := mapM_some_get h 0 0 (by simp [hn])
      cases hc : w.cell? (a.add 0) with
      | none =>
        have hl := mapM_some_length h
        rw [hc] at this
        rw [List.length_range] at hl
        have : cs[0]? = none := this.symm
        rw [List.getElem?_eq_none_iff] at this
        omega
      | some v => exact ⟨v, rfl⟩
    unfold World.cell? at hv
    split at hv
    · split at hv
      · cases hv
      · rename_i hs
        simp only [Addr.add, if_true] at hs
        cases h2 : a.spot with
        | none => rfl
        | some x => rw [h2] at hs; simp at hs
    · cases hv
  · cases h

theorem cells_get {w : World} {base : Nat} {a : Addr} {n : Nat} {cs : List Value} (h : w.cells? base a n = some cs) {j : Nat} {v : Value} (hv : cs[j]? = some v) : w.cell? (a.add j) = some v := by
  unfold World.cells? at h
  split at h
  · have hl := mapM_some_length h
    rw [List.length_range] at hl
    have hj : j < n := by
      rcases Nat.lt_or_ge j cs.length with h1 | h1
      · omega
      · rw [List.getElem?_eq_none h1] at hv; cases hv
    rw [← hv]
    exact mapM_some_get h j j (by simp [hj])
  · cases h

theorem opens_slice {α : Type} {P : Program} {t e : TypeId} {d : K α} {bytes : Nat} (ht : P.underlying t = some (.slice e)) (hc : P.cellsOf t = 1) (hpos : 0 < d.sz) (hB : P.bytesOf e = bytes) (hd : Opens P e d) : Opens P t (kSlice d bytes) := by
  refine ⟨hc, fun H enc w base spare held fuel cs x h hw => ?_⟩
  obtain ⟨hsz, hop⟩ := hd
  rcases DataW.trod_slice ht h with ⟨rfl, rfl⟩ | ⟨a, len, cap, elems, rest, n, _, rfl, rfl, hb, hl, hm, hlen, hel, _, _⟩
  · exact ⟨[], none, 0, rfl, Nat.le_refl _, Nat.zero_le _, by simp, fun h0 => absurd h0 (by simp)⟩
  · have hw1 : (elems.length + rest.length) * bytes ≤ reachBytes := by
      refine hw _ ?_
      simp only [DataW.weights, ht, List.length_map, hB]
      exact List.mem_cons_self ..
    have hel2 : ∀ i, i < len → ∃ cs' z, w.cells? base (a.add (i * P.cellsOf e)) (P.cellsOf e) = some cs' ∧ d.ok w.heap.size w cs' z := by
      intro i hi
      have hk := hel i hi
      rw [List.getElem?_eq_getElem (by omega)] at hk
      obtain ⟨cs', h1, h2⟩ := Option.bind_eq_some_iff.1 hk
      obtain ⟨z, hz⟩ := hop H enc w base spare held n cs' _ h2 (by
        intro m hm
        refine hw m ?_
        simp only [DataW.weights, ht]
        refine List.mem_cons_of_mem _ (List.mem_append.2 (.inl (weightsAll_mem (d := (elems[i]'(by omega)).1) ?_ hm)))
        exact List.mem_map.2 ⟨_, List.getElem_mem _, rfl⟩)
      exact ⟨cs', z, h1, hz⟩
    by_cases h0 : len = 0
    · subst h0
      exact ⟨[], some a, cap, rfl, by simp, hm, by simp, fun h0 => absurd h0 (by simp)⟩
    · obtain ⟨cs0, z0, hc0, _⟩ := hel2 0 (by omega)
      have hz' : ∀ i, ∃ z, i < len → ∃ cs', w.cells? base (a.add (i * P.cellsOf e)) (P.cellsOf e) = some cs' ∧ d.ok w.heap.size w cs' z := by
        intro i
        by_cases hi : i < len
        · obtain ⟨cs', z, h1, h2⟩ := hel2 i hi
          exact ⟨z, fun _ => ⟨cs', h1, h2⟩⟩
        · exact ⟨z0, fun h => absurd h hi⟩
      have hsp : a.spot = none := by
        have := cells_spot hc0 (by omega)
        simpa [Addr.add] using this
      have hlt : a.block < w.heap.size := by
        have := World.cells?_block hc0 (by omega)
        simpa [Addr.add] using this
      refine ⟨(List.range len).map (fun i => Classical.choose (hz' i)), some a, cap, by simp, by simpa using hl, hm, ?_, fun _ => ⟨a.block, a.off, ?_, hlt, fun i hi => ?_⟩⟩
      · rw [List.length_map, List.length_range]
        exact Nat.le_trans (Nat.mul_le_mul_right _ (by omega)) hw1
      · cases a; simp only at hsp; subst hsp; rfl
      · have hi' : i < len := by simpa using hi
        obtain ⟨cs', h1, h2⟩ := Classical.choose_spec (hz' i) hi'
        refine ⟨cs', by simpa using h2, fun j v hv => ?_⟩
        have := cells_get h1 hv
        rw [hsz] at this
        have e : (a.add (i * d.sz)).add j = ⟨a.block, a.off + (i * d.sz + j), none⟩ := by
          cases a
          simp only at hsp
          subst hsp
          simp only [Addr.add]
          by_cases h3 : i * d.sz = 0 <;> by_cases h4 : j = 0 <;> simp [h3, h4, Nat.add_assoc]
        rwa [e] at this

/-- The fields of a struct from an offset on. -/
def OpensFs {α : Type} (P : Program) (fs : List Field) (off : Nat) (d : K α) : Prop :=
  ∀ (H : Type) (enc : TypeId × Value → H) (w : World) (base : Nat) (spare : Nat → Bool) (held : Bool) (fuel : Nat) (cs : List Value) (xs : List (DataW H × List MemPlace)),
    cs.length = off + d.sz → (∀ (i : Nat) (f : Field), fs[i]? = some f → DataW.trod enc P w base spare held fuel f.type ((cs.drop f.offset).take (P.cellsOf f.type)) = xs[i]?) → xs.length = fs.length →
    (∀ n ∈ DataW.weightsEach P (fs.map (·.type)) (xs.map (·.1)), n ≤ reachBytes) → ∃ a, d.ok w.heap.size w (cs.drop off) a

theorem opensFs_nil {P : Program} {off : Nat} : OpensFs P [] off kUnit := by
  intro H enc w base spare held fuel cs xs hl _ _ _
  exact ⟨(), by show cs.drop off = []; rw [List.drop_eq_nil_iff]; rw [hl]; exact Nat.le_refl _⟩
theorem opensFs_cons {α β : Type} {P : Program} {f : Field} {fs : List Field} {off : Nat} {d : K α} {e : K β} (ho : f.offset = off) (hd : Opens P f.type d) (he : OpensFs P fs (off + d.sz) e) : OpensFs P (f :: fs) off (kPair d e) := by
  intro H enc w base spare held fuel cs xs hl hf hx hw
  cases xs with
  | nil => simp at hx
  | cons x xs =>
    obtain ⟨hsz, hop⟩ := hd
    have h0 := hf 0 f rfl
    simp only [List.getElem?_cons_zero] at h0
    simp only [List.map_cons, DataW.weightsEach] at hw
    obtain ⟨a, ha⟩ := hop H enc w base spare held fuel _ _ h0 (fun n hn => hw n (List.mem_append.2 (.inl hn)))
    obtain ⟨b, hb⟩ := he H enc w base spare held fuel cs xs (by rw [hl]; show off + (d.sz + e.sz) = _; omega) (fun i g hg => by have := hf (i + 1) g (by simpa using hg); simpa using this) (by simpa using hx)
      (fun n hn => hw n (List.mem_append.2 (.inr hn)))
    rw [ho, hsz] at ha
    have hl' : cs.length = off + (d.sz + e.sz) := hl
    exact ⟨(a, b), _, _, by rw [← List.drop_drop]; exact (List.take_append_drop _ _).symm, by rw [List.length_take, List.length_drop]; omega, ha, hb⟩
theorem opens_struct {α : Type} {P : Program} {t : TypeId} {fs : Array Field} {d : K α} (ht : P.underlying t = some (.struct fs)) (hc : P.cellsOf t = d.sz) (h : OpensFs P fs.toList 0 d) : Opens P t d := by
  refine ⟨hc, fun H enc w base spare held fuel cs x hx hw => ?_⟩
  obtain ⟨xs, n, _, rfl, hl, hlen, hf⟩ := DataW.trod_struct ht hx
  have hw' : ∀ n ∈ DataW.weightsEach P (fs.toList.map (·.type)) (xs.map (·.1)), n ≤ reachBytes := by
    intro n hn
    refine hw n ?_
    simp only [DataW.weights, ht]
    exact hn
  obtain ⟨a, ha⟩ := h H enc w base spare held n cs xs (by rw [hl, hc]; omega) (fun i f hif => hf i f (by simpa using hif)) (by simpa using hlen) hw'
  exact ⟨a, by simpa using ha⟩

/-- An argument, opened. -/
theorem opens_arg {α H : Type} {enc : TypeId × Value → H} {P : Program} {w : World} {base : Nat} {spare : Nat → Bool} {held : Bool} {t : TypeId} {v : Value} {x : DataW H} {ps : List MemPlace} {d : K α} {ts : List TypeId} {ds : List (DataW H)} {j : Nat}
    (hd : Opens P t d) (h : DataW.Trod enc P w base spare held t v x ps) (hsz : (DataW.weightsEach P ts ds).all (· ≤ reachBytes) = true) (ht : ts[j]? = some t) (hx : ds[j]? = some x) : ∃ a, d.ok w.heap.size w v.cells.toList a := by
  obtain ⟨fuel, hf⟩ := h
  refine hd.2 H enc w base spare held fuel _ _ hf (fun n hn => ?_)
  have := List.all_eq_true.1 hsz n (DataW.weights_mem_each ht hx n hn)
  simpa using this

end Go.Proofs.Ytdbfkjhdnbmpeaa.Kk
