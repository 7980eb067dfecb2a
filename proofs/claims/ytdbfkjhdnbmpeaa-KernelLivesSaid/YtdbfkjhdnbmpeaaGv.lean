/- Words on memory: lists of one-cell data of whatever kind: how they read, how those of the call's own grow. enc: an element's cell. -/
import Derived.Test.YtdbfkjhdnbmpeaaGr
namespace Go.Proofs.Ytdbfkjhdnbmpeaa.St
set_option linter.unusedSimpArgs false
set_option linter.unusedVariables false
open Go Go.RowKit Go.Proofs.Ytdbfkjhdnbmpeaa Go.Proofs.Ytdbfkjhdnbmpeaa.Mm Go.Proofs.Ytdbfkjhdnbmpeaa.Wr

/-- A list behind an address. -/
def RdV {α : Type} (enc : α → Value) (w : World) (A : Option Addr) (l : List α) : Prop :=
  0 < l.length → ∃ b off, A = some ⟨b, off, none⟩ ∧ ∀ i x, l[i]? = some x → w.cell? ⟨b, off + i, none⟩ = some (enc x)
/-- The cells of a list. -/
def cellsV {α : Type} (enc : α → Value) (l : List α) : Array Value := (l.map enc).toArray

section
variable {α : Type} {enc : α → Value} {w w' w0 : World} {A : Option Addr} {l : List α} {W N G : List Ent} {b o : Nat} {t E : TypeId}
theorem cellsV_size : (cellsV enc l).size = l.length := by simp [cellsV]
theorem cellsV_get {i : Nat} {x : α} (h : l[i]? = some x) : (cellsV enc l)[i]? = some (enc x) := by simp [cellsV, h]
theorem cellsV_set (i : Nat) (x : α) : (cellsV enc l).setIfInBounds i (enc x) = cellsV enc (l.set i x) := by simp [cellsV, List.map_set]
theorem row_cellsV (k : IntKind) (l : List Nat) : row k l = cellsV (fun (x : Nat) => Value.int k (x : Int)) l := rfl
theorem RdV.nil : RdV enc w A [] := fun h => by simp at h
theorem RdV.below (h : RdV enc w A l) (hb : Below w.heap.size w w') : RdV enc w' A l := by
  intro h0
  obtain ⟨b, o, hA, hc⟩ := h h0
  exact ⟨b, o, hA, fun i x hx => by rw [hb.cell (p := ⟨b, o + i, none⟩) (cell_lt (hc i x hx))]; exact hc i x hx⟩
theorem RdV.drewN (n : Nat) (h : RdV enc w A l) : RdV enc (w.drewN n) A l := h
theorem RdV.of_blk (h : Blk w b t (cellsV enc l)) : RdV enc w (some ⟨b, 0, none⟩) l := fun _ => ⟨b, 0, rfl, fun i x hx => by rw [Nat.zero_add]; exact h.cell (cellsV_get hx)⟩
theorem RdV.piece (r : RdV enc w (some ⟨b, o, none⟩) l) (i n : Nat) : RdV enc w (some ⟨b, o + i, none⟩) ((l.drop i).take n) := by
  intro h
  rw [List.length_take, List.length_drop] at h
  obtain ⟨b', o', e, hc⟩ := r (by omega)
  injection e with e; injection e with e1 e2 _; subst e1 e2
  refine ⟨_, _, rfl, fun j x hx => ?_⟩
  rw [List.getElem?_take] at hx
  split at hx
  · rw [List.getElem?_drop] at hx
    have := hc (i + j) x hx
    rw [Nat.add_assoc]; exact this
  · cases hx
theorem St.extV (h : St w0 w [] N) (r : RdV enc w0 A l) : RdV enc w A l := RdV.below r h.below
theorem St.rdV (h : St w0 w W N) (m : (⟨b, t, cellsV enc l⟩ : Ent) ∈ N) : RdV enc w (some ⟨b, 0, none⟩) l := RdV.of_blk (h.blk m)
theorem St.setV {N1 N2 : List Ent} (i : Nat) (x : α) (h : St w0 w W (N1 ++ ⟨b, t, cellsV enc l⟩ :: N2)) : St w0 (w.setCell ⟨b, i, none⟩ (enc x)) W (N1 ++ ⟨b, t, cellsV enc (l.set i x)⟩ :: N2) := by
  rw [← cellsV_set]; exact h.setN _ _
theorem RdV.cells (r : RdV enc w A l) : 0 < l.length → ∃ a, A = some a ∧ ∀ j u, (l.map enc)[j]? = some u → w.cell? (a.add j) = some u := by
  intro h0
  obtain ⟨b, o, rfl, hc⟩ := r h0
  refine ⟨_, rfl, fun j u hu => ?_⟩
  rw [List.getElem?_map] at hu
  obtain ⟨x, hx, rfl⟩ := Option.map_eq_some_iff.1 hu
  rw [add_none]; exact hc j x hx
theorem cells_of_all {c : Array Value} (h : ∀ u ∈ c.toList, ∃ x, u = enc x) : ∃ D : List α, c = cellsV enc D := by
  have key : ∀ l : List Value, (∀ u ∈ l, ∃ x, u = enc x) → ∃ D : List α, l = D.map enc := by
    intro l
    induction l with
    | nil => exact fun _ => ⟨[], rfl⟩
    | cons u l ih =>
      intro h
      obtain ⟨x, rfl⟩ := h u (by simp)
      obtain ⟨D, rfl⟩ := ih fun u hu => h u (by simp [hu])
      exact ⟨x :: D, rfl⟩
  obtain ⟨D, hD⟩ := key _ h
  refine ⟨D, ?_⟩
  unfold cellsV
  rw [← hD]

/-- A growing slice. -/
abbrev GrowV (enc : α → Value) (E : TypeId) (v : Value) (l : List α) (G : List Ent) : Prop := Grow E 1 (fun u => ∃ x, u = enc x) v l.length (l.map enc) G
theorem GrowV.nil : GrowV enc E (.slice none 0 0) [] [] := Grow.nil _ _ _
theorem GrowV.shape {v : Value} (h : GrowV enc E v l G) : ∃ A c, v = .slice A l.length c := by
  rcases h.2 with ⟨B, rfl, h0, _⟩ | ⟨g, cap, cur, rfl, _⟩
  · rw [h0]; exact ⟨B, 0, rfl⟩
  · exact ⟨_, _, rfl⟩
theorem GrowV.some {v : Value} (hinj : ∀ x y, enc x = enc y → x = y) (h : GrowV enc E v l G) (hv : G ≠ []) : ∃ b D, v = .slice (Option.some ⟨b, 0, Option.none⟩) l.length D.length ∧ l.length ≤ D.length ∧ D.length ≤ maxLen ∧ D.take l.length = l ∧ G = [⟨b, E, cellsV enc D⟩] := by
  rcases h.2 with ⟨_, _, _, h1⟩ | ⟨g, cap, cur, rfl, hnc, hcm, hcs, htake, hp, rfl⟩
  · exact (hv h1).elim
  · obtain ⟨D, rfl⟩ := cells_of_all hp
    rw [cellsV_size, Nat.mul_one] at hcs
    subst hcs
    refine ⟨g, D, rfl, hnc, hcm, ?_, rfl⟩
    rw [Nat.mul_one] at htake
    have : (D.take l.length).map enc = l.map enc := by rw [← htake]; simp [cellsV, List.map_take]
    exact (List.map_inj_right fun a b h => hinj a b h).1 this
theorem GrowV.full {v : Value} (hinj : ∀ x y, enc x = enc y → x = y) (h : GrowV enc E v l G) (h0 : 0 < l.length) : ∃ b D, v = .slice (Option.some ⟨b, 0, Option.none⟩) l.length D.length ∧ l.length ≤ D.length ∧ D.length ≤ maxLen ∧ D.take l.length = l ∧ G = [⟨b, E, cellsV enc D⟩] := by
  refine h.some hinj fun e => ?_
  subst e
  rcases h.2 with ⟨_, _, h1, _⟩ | ⟨_, _, _, _, _, _, _, _, _, h1⟩
  · omega
  · simp at h1
theorem GrowV.read {n c : Nat} (h : GrowV enc E (.slice A n c) l G) (hs : St w0 w W N) (hm : ∀ e ∈ G, e ∈ N) : RdV enc w A l := by
  rcases h.2 with ⟨B, e, h2, _⟩ | ⟨g, cap, cur, e, hnc, hcm, hcs, htake, hp, rfl⟩
  · obtain rfl : l = [] := List.eq_nil_of_length_eq_zero h2
    exact RdV.nil
  · injection e with e1 e2 e3
    subst e1
    have hb := hs.blk (hm _ (List.mem_singleton.2 rfl))
    rw [Nat.mul_one] at htake
    refine fun _ => ⟨g, 0, rfl, fun i x hx => ?_⟩
    rw [Nat.zero_add]
    refine hb.cell ?_
    have h1 : (cur.toList.take l.length)[i]? = Option.some (enc x) := by rw [htake, List.getElem?_map, hx]; rfl
    rw [List.getElem?_take] at h1
    split at h1
    · simpa using h1
    · cases h1
theorem GrowV.of_blk {b n cap : Nat} {D l : List α} (hle : n ≤ D.length) (hcap : D.length = cap) (hm : cap ≤ maxLen) (ht : D.take n = l) (hn : l.length = n) : GrowV enc E (.slice (Option.some ⟨b, 0, Option.none⟩) n cap) l [⟨b, E, cellsV enc D⟩] := by
  subst hn hcap
  refine ⟨by simp, .inr ⟨b, D.length, cellsV enc D, rfl, hle, hm, by rw [cellsV_size, Nat.mul_one], ?_, fun u hu => ?_, rfl⟩⟩
  · rw [Nat.mul_one]
    conv => rhs; rw [← ht]
    simp [cellsV, List.map_take]
  · simp only [cellsV, List.mem_map] at hu
    obtain ⟨x, _, rfl⟩ := hu
    exact ⟨x, rfl⟩

variable {P : Program} {ops : Array Oper} {rest : List Oper} {op : Oper} {a : Act} {Q : Exit → Act → World → Prop}
/-- append(s, x...), s a slice of the call's own. T: the slices' type, E: the elements', bytes wide. -/
theorem append_v (hgd : op.guard = none) (s x : Operand) (T : TypeId)
    (ho : op.op = .call { callee := .builtin .append, args := #[s, x], argTypes := #[T, T] })
    (z : α) (bytes : Nat) (ht : P.underlying T = some (.slice E)) (hinfo : (P.info? E).map (fun i => (i.zero, i.size, i.bytes)) = some (some (enc z), 1, bytes)) (hz : (enc z).cells = #[enc z]) (h1 : ∀ x : α, (enc x).oneCell' = true)
    (v : Value) (l : List α) (hs : a.eval s = v) (h : St w0 w W (G ++ N)) (hg : GrowV enc E v l G)
    (A : Option Addr) (m c : Nat) (k : List α) (hx : a.eval x = .slice A m c) (hm : k.length = m) (hr : RdV enc w A k) (hb : (l.length + k.length) * bytes ≤ 140737488355328) (hb1 : l.length + k.length ≤ maxLen)
    (hK : ∀ v' w' G', St w0 w' W (G' ++ N) → GrowV enc E v' (l ++ k) G' → (G' = [] → G = [] ∧ m = 0 ∧ v' = v) → wpList P ops Q rest (a.put op.dst v') w') : wpList P ops Q (op :: rest) a w := by
  subst hm
  refine wpList_append_st (P := P) hgd s x T ho E (enc z) 1 bytes _ ht hinfo (by rw [hz]; rfl) (by decide) (fun u hu => by rw [hz] at hu; simp at hu; exact ⟨z, hu⟩) v l.length (l.map enc) hs h hg A k.length c (k.map enc) hx (by simp) (RdV.cells hr) (fun u hu => by obtain ⟨y, _, rfl⟩ := List.mem_map.1 hu; exact h1 y) (fun u hu => by obtain ⟨y, _, rfl⟩ := List.mem_map.1 hu; exact ⟨y, rfl⟩) hb1 hb fun v' w' G' g1 g2 g3 => ?_
  refine hK v' w' G' g1 ?_ g3
  unfold GrowV
  rw [List.length_append, List.map_append]
  exact g2
/-- make: n zeros, with room for c. -/
theorem make_v (hgd : op.guard = none) (T : TypeId) (x y : Operand) (kx ky : IntKind) (n c bytes : Nat) (z : α) (ho : op.op = .makeSlice T x y) (hx : a.eval x = .int kx (n : Int)) (hy : a.eval y = .int ky (c : Int))
    (ht : P.underlying T = some (.slice E)) (hinfo : (P.info? E).map (fun i => (i.zero, i.size, i.bytes)) = some (some (enc z), 1, bytes)) (hz : (enc z).cells = #[enc z]) (hn : n ≤ c) (hb : bytes * c ≤ 281474976710656) (hc : c ≤ 9223372036854775807) (h : St w0 w W N)
    (hK : ∀ b w', St w0 w' W (⟨b, E, cellsV enc (List.replicate c z)⟩ :: N) → wpList P ops Q rest (a.put op.dst (.slice (some ⟨b, 0, none⟩) n c)) w') : wpList P ops Q (op :: rest) a w := by
  refine ev hgd (v := .slice (some ⟨w.heap.size, 0, none⟩) n c) (w1 := w.alloc (.cells (cellsV enc (List.replicate c z)) E (0, 0))) ?_ (hK _ _ (h.alloc E _))
  cases hi : P.info? E with
  | none => rw [hi] at hinfo; cases hinfo
  | some i =>
    rw [hi] at hinfo
    simp only [Option.map_some, Option.some.injEq, Prod.mk.injEq] at hinfo
    obtain ⟨hz', hsz, hby⟩ := hinfo
    have hb' : (i.bytes : Int) * (c : Int) ≤ 281474976710656 := by
      rw [hby]
      have h : ((bytes * c : Nat) : Int) ≤ 281474976710656 := by omega
      rwa [Int.natCast_mul] at h
    have hr := run_make (P := P) w T E i (enc z) ht hi hz' kx ky (n : Int) (c : Int) (by omega) (by omega) hb' (by omega)
    have hm : madeCells (enc z).cells c = cellsV enc (List.replicate c z) := by
      rw [hz]
      apply Array.ext_getElem?
      intro j
      by_cases hj : j < c
      · simp [madeCells, cellsV, hj, Nat.mod_one]
      · simp [madeCells, cellsV, hj]
    rw [hsz, Int.toNat_natCast, Int.toNat_natCast, Nat.mul_one, hm] at hr
    unfold execOp
    simp only [ho, hx, hy, Sem.run_bind, hr, Result.andThen_ok, Sem.run_pure]
end

theorem St.nilr {w0 w : World} {W G : List Ent} (h : St w0 w W G) : St w0 w W (G ++ []) := by rw [List.append_nil]; exact h
/-- The cells of bytes, words, ints. -/
abbrev e8 (x : Nat) : Value := .int .u8 (x : Int)
abbrev e16 (x : Nat) : Value := .int .u16 (x : Int)
abbrev e64 (x : Nat) : Value := .int .u64 (x : Int)
abbrev ei (x : Int) : Value := .int .i64 x
theorem e8_inj (x y : Nat) (h : e8 x = e8 y) : x = y := by injection h with _ h; omega
theorem e16_inj (x y : Nat) (h : e16 x = e16 y) : x = y := by injection h with _ h; omega
theorem e64_inj (x y : Nat) (h : e64 x = e64 y) : x = y := by injection h with _ h; omega
theorem ei_inj (x y : Int) (h : ei x = ei y) : x = y := by injection h

end Go.Proofs.Ytdbfkjhdnbmpeaa.St
