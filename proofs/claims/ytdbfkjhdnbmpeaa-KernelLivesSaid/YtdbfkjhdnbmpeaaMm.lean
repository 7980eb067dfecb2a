/- Words on memory that the walks of this seat share: a block known whole, what a store, a new block and a draw leave of it; the runs of the operations that build and box. No program in sight. -/
import Derived.WalkKit
import Derived.Below
import Derived.Deep.Draws
import Derived.Deep.LoopGhost
import Derived.Deep.QuietTactic
import Derived.BigQuiet
import Derived.KernelRfl
import Derived.RegionTactic
import Derived.BigRegion
import Derived.Laws.Tables
import Derived.Laws.BitsLemmas
import Derived.Laws.MakeOwn
import Derived.Deep.MidRow
import Derived.Lib.Hide
import Derived.Outline
namespace Go.Proofs.Ytdbfkjhdnbmpeaa.Mm
set_option linter.unusedSimpArgs false
set_option linter.unusedVariables false
open Go Go.RowKit

/-- Block b is the row of cells c of the element type t, and nothing of it is frozen. -/
def Blk (w : World) (b : Nat) (t : TypeId) (c : Array Value) : Prop := w.heap[b]? = some (.cells c t (0, 0))

section
variable {w w' : World} {b i : Nat} {t : TypeId} {c : Array Value} {v : Value}
theorem Blk.cell (h : Blk w b t c) (hv : c[i]? = some v) : w.cell? ⟨b, i, none⟩ = some v := by
  unfold Blk at h
  unfold World.cell?; simp only [h]; simpa using hv
theorem Blk.free (h : Blk w b t c) : w.frozen? ⟨b, i, none⟩ = false := by
  unfold Blk at h
  unfold World.frozen?; simp only [h]; simp
theorem Blk.set (v : Value) (h : Blk w b t c) : Blk (w.setCell ⟨b, i, none⟩ v) b t (c.setIfInBounds i v) := by
  unfold Blk at *
  simp only [World.setCell, Array.getElem?_modify]
  simp [h]
theorem Blk.set_other {a : Addr} (v : Value) (h : Blk w b t c) (hb : b ≠ a.block) : Blk (w.setCell a v) b t c := by
  unfold Blk at *
  rw [Below.heap_setCell _ _ _ _ hb]; exact h
theorem Blk.lt (h : Blk w b t c) : b < w.heap.size := by
  unfold Blk at h
  rcases Nat.lt_or_ge b w.heap.size with h1 | h1
  · exact h1
  · rw [Array.getElem?_eq_none h1] at h; cases h
theorem Blk.alloc (o : Obj) (h : Blk w b t c) : Blk (w.alloc o) b t c := by
  have := h.lt
  unfold Blk at *
  rw [Below.heap_alloc _ _ _ this]; exact h
theorem Blk.new (w : World) (c : Array Value) (t : TypeId) : Blk (w.alloc (.cells c t (0, 0))) w.heap.size t c := by
  unfold Blk
  show (w.heap.push _)[w.heap.size]? = _
  simp
theorem Blk.drewN (n : Nat) (h : Blk w b t c) : Blk (w.drewN n) b t c := h
theorem Blk.drew (h : Blk w b t c) : Blk w.drew b t c := h
theorem Blk.below {B : Nat} (h : Blk w b t c) (hb : Below B w w') (hB : b < B) : Blk w' b t c := by
  unfold Blk at *
  rw [hb.block b hB]; exact h
end

/-- What was there before a call that makes new blocks alone reads as before: two rules for the walk. -/
theorem bcell {W w1 : World} (hb : Below W.heap.size W w1) : (∀ b o, b < W.heap.size → w1.cell? ⟨b, o, none⟩ = W.cell? ⟨b, o, none⟩) ∧ (∀ b o, b < W.heap.size → w1.frozen? ⟨b, o, none⟩ = W.frozen? ⟨b, o, none⟩) :=
  ⟨fun b o h => hb.cell (p := ⟨b, o, none⟩) h, fun b o h => hb.frozen (p := ⟨b, o, none⟩) h⟩

section
variable {P : Program} {ops : Array Oper} {rest : List Oper} {o : Oper} {a : Act} {Q : Exit → Act → World → Prop} {W w1 : World} {v : Value}
/-- One operation by its run. -/
theorem ev (hgd : o.guard = none) (hrun : (execOp a.eval o).run P W = .ok (.value v) w1) (h : wpList P ops Q rest (a.put o.dst v) w1) : wpList P ops Q (o :: rest) a W := by
  refine wpList_plain hgd fun K hK => ?_
  unfold Oper.wp
  rw [hrun]
  exact hK _ _ h
/-- .. an operation behind a guard that lets it by. -/
theorem evg (hw : Region.wanted o (yielded ops a.tmps) = true) (hrun : (execOp a.eval o).run P W = .ok (.value v) w1) (h : wpList P ops Q rest (a.put o.dst v) w1) : wpList P ops Q (o :: rest) a W := by
  refine wpList_step fun K hK => ?_
  rw [if_pos hw]
  unfold Oper.wp
  rw [hrun]
  exact hK _ _ h
/-- Which operation: the slot that it writes. -/
theorem at_slot {N : Tmp} (_hN : o.dst = some N) (h : wpList P ops Q (o :: rest) a W) : wpList P ops Q (o :: rest) a W := h
theorem build_run (t : TypeId) (parts : Array (Nat × Operand)) (cs : Array Value) (ho : o.op = .build t parts)
    (h : P.built t (parts.map fun (i, x) => (i, a.eval x)).toList = some cs) : (execOp a.eval o).run P W = .ok (.value (.agg cs)) W := by
  unfold execOp
  simp only [ho, Sem.run_bind, run_build W t _ cs h, Result.andThen_ok, Sem.run_pure]
theorem box_run (t : TypeId) (x : Operand) (cs : Array Value) (ho : o.op = .box t x) (hx : a.eval x = .agg cs) :
    (execOp a.eval o).run P W = .ok (.value (.pointer (some ⟨W.heap.size, 0, none⟩))) (W.alloc (.cells cs t (0, 0))) := by
  unfold execOp
  simp only [ho, hx, Instr.box, newVar, newRow, Value.cells]
  rfl
/-- A row of natural numbers of one kind. -/
def row (k : IntKind) (l : List Nat) : Array Value := (l.map fun (x : Nat) => Value.int k (x : Int)).toArray
theorem row_size (k : IntKind) (l : List Nat) : (row k l).size = l.length := by simp [row]
theorem row_get {k : IntKind} {l : List Nat} {i : Nat} (h : i < l.length) : (row k l)[i]? = some (.int k ((l.getD i 0 : Nat) : Int)) := by
  simp [row, h]
theorem row_set (k : IntKind) (l : List Nat) (i v : Nat) : (row k l).setIfInBounds i (.int k (v : Int)) = row k (l.set i v) := by
  simp [row, List.map_set]
theorem row_made (k : IntKind) (n : Nat) : madeCells (Value.int k 0).cells n = row k (List.replicate n 0) := by
  apply Array.ext_getElem?
  intro i
  by_cases hi : i < n
  · simp [madeCells, row, hi, Value.cells, Nat.mod_one]
  · simp [madeCells, row, hi]

theorem Blk.setRow {w : World} {b : Nat} {t : TypeId} {k : IntKind} {l : List Nat} (i v : Nat) (h : Blk w b t (row k l)) : Blk (w.setCell ⟨b, i, none⟩ (.int k (v : Int))) b t (row k (l.set i v)) := by
  rw [← row_set]; exact h.set _
theorem Blk.cellRow {w : World} {b : Nat} {t : TypeId} {k : IntKind} {l : List Nat} {i : Nat} (h : Blk w b t (row k l)) (hi : i < l.length) : w.cell? ⟨b, i, none⟩ = some (.int k ((l.getD i 0 : Nat) : Int)) := h.cell (row_get hi)
theorem _root_.Go.RowKit.Below.drewN' {B n : Nat} {a w : World} (h : Below B a w) : Below B a (w.drewN n) := ⟨h.os, h.tape, h.output, h.size, h.block⟩

/-- A row of values, place by place. -/
def rowV (f : Nat → Value) (n : Nat) : Array Value := ((List.range n).map f).toArray
theorem rowV_size (f : Nat → Value) (n : Nat) : (rowV f n).size = n := by simp [rowV]
theorem rowV_get {f : Nat → Value} {n i : Nat} (h : i < n) : (rowV f n)[i]? = some (f i) := by simp [rowV, h]
theorem rowV_congr {f g : Nat → Value} {n : Nat} (h : ∀ i, i < n → f i = g i) : rowV f n = rowV g n := by
  unfold rowV
  congr 1
  exact List.map_congr_left fun i hi => h i (by simpa using hi)
theorem rowV_set {f g : Nat → Value} {n i : Nat} {v : Value} (hv : g i = v) (h : ∀ j, j < n → j ≠ i → f j = g j) : (rowV f n).setIfInBounds i v = rowV g n := by
  apply Array.ext_getElem?
  intro j
  rw [Array.getElem?_setIfInBounds, rowV_size]
  by_cases hj : j < n
  · by_cases e : i = j
    · subst e; rw [if_pos rfl, if_pos hj, rowV_get hj, hv]
    · rw [if_neg e, rowV_get hj, rowV_get hj, h j hj (fun h => e h.symm)]
  · rw [Array.getElem?_eq_none (xs := rowV g n) (by rw [rowV_size]; omega)]
    by_cases e : i = j
    · rw [if_pos e, if_neg (by omega)]
    · rw [if_neg e, Array.getElem?_eq_none (by rw [rowV_size]; omega)]

/-- An element and an error as the calls hand them back. -/
def two (x : Nat × Int) : Value := .tuple #[.int .u8 (x.1 : Int), .int .i64 x.2]

/-- A list of bytes behind an address. -/
def Rd (w : World) (A : Option Addr) (l : List Nat) : Prop :=
  0 < l.length → ∃ b off, A = some ⟨b, off, none⟩ ∧ ∀ i, i < l.length → w.cell? ⟨b, off + i, none⟩ = some (.int .u8 ((l.getD i 0 : Nat) : Int))
theorem Rd.of_blk {w : World} {b : Nat} {t : TypeId} {l : List Nat} (h : Blk w b t (row .u8 l)) : Rd w (some ⟨b, 0, none⟩) l :=
  fun _ => ⟨b, 0, rfl, fun i hi => by rw [Nat.zero_add]; exact h.cell (row_get hi)⟩
theorem Rd.drewN {w : World} {A : Option Addr} {l : List Nat} (n : Nat) (h : Rd w A l) : Rd (w.drewN n) A l := h

/-- A list of n places, filled from the head: k places hold f's numbers. -/
def fill (f : Nat → Nat) (n k : Nat) : List Nat := (List.range n).map fun i => if i < k then f i else 0
theorem fill_zero (f : Nat → Nat) (n : Nat) : fill f n 0 = List.replicate n 0 := by
  unfold fill; apply List.ext_getElem?; intro i; simp
  by_cases h : i < n <;> simp [h]
theorem fill_done (f : Nat → Nat) (n : Nat) : fill f n n = (List.range n).map f := by
  unfold fill
  apply List.map_congr_left
  intro i hi
  rw [if_pos (by simpa using hi)]
theorem fill_length (f : Nat → Nat) (n k : Nat) : (fill f n k).length = n := by simp [fill]
theorem fill_step {f : Nat → Nat} {n k : Nat} (h : k < n) : (fill f n k).set k (f k) = fill f n (k + 1) := by
  apply List.ext_getElem?
  intro i
  rw [List.getElem?_set]
  by_cases h1 : k = i
  · subst h1
    rw [if_pos rfl, if_pos (by rw [fill_length]; exact h)]
    simp [fill, h]
  · rw [if_neg h1]
    by_cases hi : i < n
    · simp only [fill, List.getElem?_map, List.getElem?_range hi, Option.map_some]
      by_cases h2 : i < k
      · rw [if_pos h2, if_pos (by omega)]
      · rw [if_neg h2, if_neg (by omega)]
    · rw [List.getElem?_eq_none (by rw [fill_length]; omega), List.getElem?_eq_none (by rw [fill_length]; omega)]

theorem make_run (t e : TypeId) (x y : Operand) (k kx ky : IntKind) (n c bytes : Nat) (ho : o.op = .makeSlice t x y) (hx : a.eval x = .int kx (n : Int)) (hy : a.eval y = .int ky (c : Int))
    (ht : P.underlying t = some (.slice e)) (hinfo : (P.info? e).map (fun i => (i.zero, i.size, i.bytes)) = some (some (.int k 0), 1, bytes)) (hn : n ≤ c) (hb : bytes * c ≤ 281474976710656) (hc : c ≤ 9223372036854775807) :
    (execOp a.eval o).run P W = .ok (.value (.slice (some ⟨W.heap.size, 0, none⟩) n c)) (W.alloc (.cells (row k (List.replicate c 0)) e (0, 0))) := by
  cases hi : P.info? e with
  | none => rw [hi] at hinfo; cases hinfo
  | some i =>
    rw [hi] at hinfo
    simp only [Option.map_some, Option.some.injEq, Prod.mk.injEq] at hinfo
    obtain ⟨hz, hsz, hby⟩ := hinfo
    have hb' : (i.bytes : Int) * (c : Int) ≤ 281474976710656 := by
      rw [hby]
      have h : ((bytes * c : Nat) : Int) ≤ 281474976710656 := by omega
      rwa [Int.natCast_mul] at h
    have hr := run_make (P := P) W t e i (.int k 0) ht hi hz kx ky (n : Int) (c : Int) (by omega) (by omega) hb' (by omega)
    rw [hsz, Int.toNat_natCast, Int.toNat_natCast, Nat.mul_one, row_made] at hr
    unfold execOp
    simp only [ho, hx, hy, Sem.run_bind, hr, Result.andThen_ok, Sem.run_pure]

/-- A list of n zeros, under a name that the walk does not write out. -/
def zs (n : Nat) : List Nat := List.replicate n 0
theorem zs_length (n : Nat) : (zs n).length = n := List.length_replicate
theorem make_zs (t e : TypeId) (x y : Operand) (k kx ky : IntKind) (n c bytes : Nat) (ho : o.op = .makeSlice t x y) (hx : a.eval x = .int kx (n : Int)) (hy : a.eval y = .int ky (c : Int))
    (ht : P.underlying t = some (.slice e)) (hinfo : (P.info? e).map (fun i => (i.zero, i.size, i.bytes)) = some (some (.int k 0), 1, bytes)) (hn : n ≤ c) (hb : bytes * c ≤ 281474976710656) (hc : c ≤ 9223372036854775807) :
    (execOp a.eval o).run P W = .ok (.value (.slice (some ⟨W.heap.size, 0, none⟩) n c)) (W.alloc (.cells (row k (zs c)) e (0, 0))) := make_run t e x y k kx ky n c bytes ho hx hy ht hinfo hn hb hc

theorem bslice_run (t e : TypeId) (n : Nat) (parts : Array (Nat × Operand)) (c : Array Value) (ho : o.op = .buildSlice t n parts)
    (h : ∀ w : World, (Instr.buildSlice t n (parts.map fun (i, x) => (i, a.eval x))).run P w = .ok (.slice (some ⟨w.heap.size, 0, none⟩) n n) (w.alloc (.cells c e (0, 0)))) :
    (execOp a.eval o).run P W = .ok (.value (.slice (some ⟨W.heap.size, 0, none⟩) n n)) (W.alloc (.cells c e (0, 0))) := by
  unfold execOp
  simp only [ho, Sem.run_bind, h, Result.andThen_ok, Sem.run_pure]
theorem alloc_run (t : TypeId) (z : Value) (c : Array Value) (ho : o.op = .alloc t) (hz : (P.info? t).bind (·.zero) = some z) (hc : z.cells = c) :
    (execOp a.eval o).run P W = .ok (.value (.pointer (some ⟨W.heap.size, 0, none⟩))) (W.alloc (.cells c t (0, 0))) := by
  subst hc
  cases hi : P.info? t with
  | none => rw [hi] at hz; cases hz
  | some i =>
    rw [hi] at hz
    have hz' : i.zero = some z := hz
    unfold execOp
    simp only [ho]
    simp [Instr.alloc, zeroValue, typeInfo, hi, hz', newVar, newRow]
end
section
variable {P : Program}
theorem below_setCells {B : Nat} {a : World} (b : Nat) (hb : B ≤ b) : ∀ (vs : List Value) (o : Nat) (w : World), Below B a w → Below B a (w.setCells b o vs)
  | [], _, _, h => h
  | _ :: vs, o, _, h => below_setCells b hb vs (o + 1) _ (h.setCell hb _)
theorem Blk.range {w : World} {b : Nat} {t : TypeId} {c : Array Value} (h : Blk w b t c) : w.rangeAt b 0 c.toList := fun j v hv => by
  rw [Nat.zero_add]; exact h.cell (by simpa using hv)
theorem Blk.there {w : World} {b n : Nat} {t : TypeId} {c : Array Value} (h : Blk w b t c) (hn : n ≤ c.size) : w.there b 0 n := fun j hj => by
  rw [Nat.zero_add]
  have hj' : j < c.size := by omega
  exact ⟨by rw [h.cell (i := j) (v := c[j]) (by simp [hj'])]; rfl, h.free⟩
theorem row_one (k : IntKind) (l : List Nat) : ∀ v ∈ (row k l).toList, v.oneCell' = true := by
  intro v hv
  simp only [row, List.mem_map] at hv
  obtain ⟨x, _, rfl⟩ := hv
  rfl
/-- The results of a function that hands back what two of its variables hold. -/
theorem results_cells2 {fn : Func} {s1 s2 : Tmp} {t1 t2 : TypeId} (h : fn.results = #[.cell s1 t1, .cell s2 t2]) {tmps : Array Value} {w : World} {b1 b2 : Nat} {v1 v2 : Value}
    (h1 : tmps.getD s1 undef = .pointer (some ⟨b1, 0, none⟩)) (h2 : tmps.getD s2 undef = .pointer (some ⟨b2, 0, none⟩)) (l1 : (loadVar t1 ⟨b1, 0, none⟩).run P w = .ok v1 w) (l2 : (loadVar t2 ⟨b2, 0, none⟩).run P w = .ok v2 w) :
    (results fn tmps).run P w = .ok (.tuple #[v1, v2]) w := by
  rw [Array.getD_eq_getD_getElem?] at h1 h2
  simp [results, h, h1, h2, asAddr, l1, l2]
/-- A whole row of cells of an array's type, out of the head of a block. -/
theorem load_range {w : World} {b : Nat} {ty e : TypeId} {n : Nat} {c : Array Value} (hc : w.rangeAt b 0 c.toList) (hu : P.underlying ty = some (.array n e)) (hi : (P.info? ty).map (·.size) = some c.size) :
    (loadVar ty ⟨b, 0, none⟩).run P w = .ok (.agg c) w := by
  have := run_loadVar_mid (P := P) w b 0 ty c.toList _ hc hu rfl (by simpa using hi)
  simpa using this
end

section
variable {P : Program} {ops : Array Oper} {Q : Exit → Act → World → Prop} {S : World → Prop} {md : Region.Mode} {fuel i : Nat} {listed : Array Bool} {a : Act} {w : World} {o : Oper}
/-- In a region that draws: just one operation may come up. -/
theorem one_ready (hr : Region.ready md ops listed = [i]) (ho : ops[i]? = some o) (hg : o.guard = none)
    (h : o.wp P a w (fun a' w' => S w' ∧ wpAnyH P md ops Q S fuel (listed.setIfInBounds i true) a' w') Q) : wpAnyH P md ops Q S (fuel + 1) listed a w := by
  refine ⟨fun h0 => (by rw [hr] at h0; cases h0), fun j hj => ?_⟩
  rw [hr] at hj
  obtain rfl : j = i := by simpa using hj
  unfold wpOp
  rw [ho]
  show if Region.wanted o _ = true then _ else _
  rw [if_pos (by simp [Region.wanted, hg])]
  exact .inl h
theorem none_ready (hr : Region.ready md ops listed = []) (h : Q .normal a w) : wpAnyH P md ops Q S fuel listed a w := by
  cases fuel with
  | zero => exact ⟨hr, h⟩
  | succ n => exact ⟨fun _ => h, fun j hj => by rw [hr] at hj; cases hj⟩
end

end Go.Proofs.Ytdbfkjhdnbmpeaa.Mm
