/- Words on lists of bytes in memory: a block of bytes, a worlds that differ in one old block alone, a piece of a list written over. -/
import Derived.Test.YtdbfkjhdnbmpeaaProg
import Derived.Test.YtdbfkjhdnbmpeaaMm
namespace Go.Proofs.Ytdbfkjhdnbmpeaa.Wr
set_option linter.unusedSimpArgs false
set_option linter.unusedVariables false
open Go Go.RowKit Go.Proofs.Ytdbfkjhdnbmpeaa Go.Proofs.Ytdbfkjhdnbmpeaa.Mm

/-- A new list of bytes at block b. -/
abbrev Bytes (w : World) (b : Nat) (l : List Nat) : Prop := Blk w b 5 (row .u8 l)

theorem info_u8 : (Try.prog.info? 5).map (fun i => (i.zero, i.size, i.bytes)) = some (some (.int .u8 0), 1, 1) := by kernel_rfl

/-- Of the blocks that were there, only b may have turned. -/
structure But (b : Nat) (w w' : World) : Prop where
  os : w'.os = w.os
  tape : w'.tape = w.tape
  output : w'.output = w.output
  size : w.heap.size ≤ w'.heap.size
  block : ∀ k, k < w.heap.size → k ≠ b → w'.heap[k]? = w.heap[k]?

theorem But.refl (b : Nat) (w : World) : But b w w := ⟨rfl, rfl, rfl, Nat.le_refl _, fun _ _ _ => rfl⟩
theorem But.trans {b : Nat} {a c d : World} (h : But b a c) (k : But b c d) : But b a d :=
  ⟨k.os.trans h.os, k.tape.trans h.tape, k.output.trans h.output, Nat.le_trans h.size k.size, fun i hi hne => (k.block i (Nat.lt_of_lt_of_le hi h.size) hne).trans (h.block i hi hne)⟩
theorem But.of_below {b : Nat} {w w' : World} (h : Below w.heap.size w w') : But b w w' := ⟨h.os, h.tape, h.output, h.size, fun k hk _ => h.block k hk⟩
theorem But.drewN {b n : Nat} {a w : World} (h : But b a w) : But b a (w.drewN n) := ⟨h.os, h.tape, h.output, h.size, h.block⟩
theorem But.drew {b : Nat} {a w : World} (h : But b a w) : But b a w.drew := ⟨h.os, h.tape, h.output, h.size, h.block⟩
theorem But.alloc {b : Nat} {a w : World} (h : But b a w) (o : Obj) : But b a (w.alloc o) :=
  h.trans ⟨rfl, rfl, rfl, by simp, fun k hk _ => Below.heap_alloc _ _ _ hk⟩
theorem But.setCell {b : Nat} {a w : World} {p : Addr} (h : But b a w) (hp : p.block = b ∨ a.heap.size ≤ p.block) (u : Value) : But b a (w.setCell p u) := by
  refine ⟨h.os, h.tape, h.output, by simpa [World.setCell] using h.size, fun k hk hne => ?_⟩
  rw [Below.heap_setCell _ _ _ _ (by rcases hp with hp | hp <;> omega)]
  exact h.block k hk hne
theorem But.below {b B : Nat} {w w' : World} (h : But b w w') (hB : B ≤ b) (hz : B ≤ w.heap.size) : Below B w w' :=
  ⟨h.os, h.tape, h.output, h.size, fun k hk => h.block k (by omega) (by omega)⟩
theorem But.blk {b b' : Nat} {w w' : World} {t : TypeId} {c : Array Value} (h : But b w w') (hb : Blk w b' t c) (hne : b' ≠ b) : Blk w' b' t c := by
  have := hb.lt
  unfold Blk at *
  rw [h.block b' this hne]; exact hb
theorem But.cell {b : Nat} {w w' : World} {p : Addr} (h : But b w w') (hp : p.block < w.heap.size) (hne : p.block ≠ b) : w'.cell? p = w.cell? p :=
  World.cell?_of_block (w := w) (h.block p.block hp hne)
/-- What was there reads as before, the block b apart: a rule for the walk. -/
theorem But.rule {b : Nat} {w w' : World} (h : But b w w') : ∀ k o, k < w.heap.size → k ≠ b → w'.cell? ⟨k, o, none⟩ = w.cell? ⟨k, o, none⟩ := fun k o hk hne => h.cell (p := ⟨k, o, none⟩) hk hne

section
variable {P : Program} {ops : Array Oper} {rest : List Oper} {o : Oper} {a : Act} {Q : Exit → Act → World → Prop} {W : World}
/-- Which operation: a store through the pointer of that slot. -/
theorem at_store {p : Tmp} {t : TypeId} {v : Operand} (_ho : o.op = .store t (.tmp p) v) (h : wpList P ops Q (o :: rest) a W) : wpList P ops Q (o :: rest) a W := h
theorem setRow_blk {g : Nat} {t : TypeId} {old cs : Array Value} (hb : Blk W g t old) : Blk (W.setRow g cs) g t cs := setRow_heap W g old cs t (0, 0) hb
theorem setRow_but (g : Nat) (cs : Array Value) : But g W (W.setRow g cs) :=
  ⟨rfl, rfl, rfl, by simp [World.setRow], fun k _ hne => by simp only [World.setRow, Array.getElem?_modify]; rw [if_neg (fun e => hne e.symm)]⟩
/-- A whole array stored into a variable of its own. -/
theorem store_blk (hgd : o.guard = none) (ty : TypeId) (x y : Operand) (ho : o.op = .store ty x y) (g : Nat) (cells : Array Value) (hx : a.eval x = .pointer (some ⟨g, 0, none⟩)) (hy : a.eval y = .agg cells)
    (t : TypeId) (old : Array Value) (hb : Blk W g t old) (hi : (P.info? ty).map (·.size) = some cells.size) (hold : old.size = cells.size) (h1 : cells.all (·.oneCell') = true)
    (h : ∀ w1, Blk w1 g t cells → But g W w1 → wpList P ops Q rest (a.put o.dst undef) w1) : wpList P ops Q (o :: rest) a W :=
  wpList_store_row hgd ty x y ho g cells hx hy t old hb hi hold h1 (h _ (setRow_blk hb) (setRow_but g cells))
theorem row_all (k : IntKind) (l : List Nat) : (row k l).all (·.oneCell') = true := by
  rw [Array.all_eq_true]
  intro i hi
  simp only [row, List.getElem_toArray, List.getElem_map]
  rfl
end

/-- A list with the numbers vs written over its places from o on. -/
def wr : List Nat → Nat → List Nat → List Nat
  | D, _, [] => D
  | D, o, v :: vs => wr (D.set o v) (o + 1) vs
theorem wr_length : ∀ (vs D : List Nat) (o : Nat), (wr D o vs).length = D.length
  | [], _, _ => rfl
  | v :: vs, D, o => by rw [wr, wr_length vs]; simp
theorem wr_snoc : ∀ (vs D : List Nat) (o v : Nat), wr D o (vs ++ [v]) = (wr D o vs).set (o + vs.length) v
  | [], _, _, _ => rfl
  | x :: vs, D, o, v => by
    show wr (D.set o x) (o + 1) (vs ++ [v]) = (wr (D.set o x) (o + 1) vs).set _ _
    rw [wr_snoc vs]
    congr 1
    simp only [List.length_cons]
    omega
theorem wr_take_succ {vs D : List Nat} {o i : Nat} (h : i < vs.length) : wr D o (vs.take (i + 1)) = (wr D o (vs.take i)).set (o + i) (vs.getD i 0) := by
  rw [List.take_succ_eq_append_getElem h, wr_snoc, List.length_take, Nat.min_eq_left (Nat.le_of_lt h)]
  simp [h]
theorem wr_get : ∀ (vs D : List Nat) (o j : Nat), o + vs.length ≤ D.length → (wr D o vs)[j]? = if o ≤ j ∧ j < o + vs.length then vs[j - o]? else D[j]?
  | [], D, o, j, _ => by rw [if_neg (by simp only [List.length_nil]; omega), wr]
  | v :: vs, D, o, j, h => by
    simp only [List.length_cons] at h
    rw [wr, wr_get vs _ _ _ (by simp; omega)]
    by_cases h1 : o + 1 ≤ j ∧ j < o + 1 + vs.length
    · rw [if_pos h1, if_pos (by simp; omega)]
      rw [show j - o = (j - (o + 1)) + 1 from by omega]
      simp
    · rw [if_neg h1, List.getElem?_set]
      by_cases h2 : o = j
      · subst h2
        rw [if_pos rfl, if_pos (by omega), if_pos (by simp)]
        simp
      · rw [if_neg h2, if_neg (by simp; omega)]
theorem wr_mid (a b c vs : List Nat) (h : b.length = vs.length) : wr (a ++ b ++ c) a.length vs = a ++ vs ++ c := by
  apply List.ext_getElem?
  intro j
  rw [wr_get _ _ _ _ (by simp; omega)]
  by_cases h1 : a.length ≤ j ∧ j < a.length + vs.length
  · rw [if_pos h1, List.append_assoc, List.getElem?_append_right h1.1, List.getElem?_append_left (by omega)]
  · rw [if_neg h1]
    by_cases h2 : j < a.length
    · rw [List.append_assoc, List.append_assoc, List.getElem?_append_left h2, List.getElem?_append_left h2]
    · rw [List.append_assoc, List.append_assoc, List.getElem?_append_right (by omega), List.getElem?_append_right (by omega), List.getElem?_append_right (by omega), List.getElem?_append_right (by omega), h]
theorem wr_all (b vs : List Nat) (h : b.length = vs.length) : wr b 0 vs = vs := by
  have := wr_mid [] b [] vs h
  simpa using this
theorem wr_head (b c vs : List Nat) (h : b.length = vs.length) : wr (b ++ c) 0 vs = vs ++ c := by
  have := wr_mid [] b c vs h
  simpa using this

theorem cell_lt {w : World} {p : Addr} {v : Value} (h : w.cell? p = some v) : p.block < w.heap.size := by
  unfold World.cell? at h
  rcases Nat.lt_or_ge p.block w.heap.size with h1 | h1
  · exact h1
  · rw [Array.getElem?_eq_none h1] at h; cases h
theorem Rd.below {w w' : World} {A : Option Addr} {l : List Nat} (h : Rd w A l) (hb : Below w.heap.size w w') : Rd w' A l := by
  intro h0
  obtain ⟨b, off, hA, hc⟩ := h h0
  exact ⟨b, off, hA, fun i hi => by rw [hb.cell (p := ⟨b, off + i, none⟩) (cell_lt (hc i hi))]; exact hc i hi⟩
theorem Rd.but {w w' : World} {A : Option Addr} {l : List Nat} {b : Nat} (h : Rd w A l) (hb : But b w w') (hne : ∀ a, A = some a → a.block ≠ b) : Rd w' A l := by
  intro h0
  obtain ⟨b', off, hA, hc⟩ := h h0
  exact ⟨b', off, hA, fun i hi => by rw [hb.cell (p := ⟨b', off + i, none⟩) (cell_lt (hc i hi)) (by have := hne _ hA; exact this)]; exact hc i hi⟩
theorem Below.up {B : Nat} {a b c : World} (h : Below B a b) (hB : B ≤ b.heap.size) (k : Below b.heap.size b c) : Below B a c := h.trans (k.mono hB)

/-- All numbers are bytes. -/
def B8 (l : List Nat) : Prop := ∀ x ∈ l, x < 256
theorem B8.get {l : List Nat} (h : B8 l) {i : Nat} (hi : i < l.length) : l.getD i 0 < 256 := by
  have : l.getD i 0 = l[i] := by simp [hi]
  rw [this]; exact h _ (List.getElem_mem _)
theorem B8.of_all {l : List Nat} (h : l.all (· < 256) = true) : B8 l := fun x hx => by simpa using List.all_eq_true.1 h x hx
theorem B8.append {a b : List Nat} (h : B8 a) (k : B8 b) : B8 (a ++ b) := fun x hx => (List.mem_append.1 hx).elim (h x) (k x)
theorem B8.map {f : Nat → Nat} {a : List Nat} (h : B8 a) (hf : ∀ x, x < 256 → f x < 256) : B8 (a.map f) := by
  intro x hx
  obtain ⟨y, hy, rfl⟩ := List.mem_map.1 hx
  exact hf y (h y hy)
theorem B8.zeros (n : Nat) : B8 (List.replicate n 0) := by
  intro x hx
  rw [List.eq_of_mem_replicate hx]; decide

end Go.Proofs.Ytdbfkjhdnbmpeaa.Wr
