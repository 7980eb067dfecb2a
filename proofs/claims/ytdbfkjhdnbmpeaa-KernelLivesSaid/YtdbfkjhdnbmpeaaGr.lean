/- Words on memory: slices that grow by append, and copy, as laws for the walk over St. No program in sight but the numbers of types. -/
import Derived.Test.YtdbfkjhdnbmpeaaSt
import Derived.Laws.AppendOwnNone
import Derived.Laws.CopyOwn
namespace Go.Proofs.Ytdbfkjhdnbmpeaa.St
set_option linter.unusedSimpArgs false
set_option linter.unusedVariables false
open Go Go.RowKit Go.Proofs.Ytdbfkjhdnbmpeaa Go.Proofs.Ytdbfkjhdnbmpeaa.Mm Go.Proofs.Ytdbfkjhdnbmpeaa.Wr

/-- A slice of n elements, xs their cells, that has no room at all or lies at the head of a block of its own (G: that block, all its cells of the kind p). -/
def Grow (E : TypeId) (size : Nat) (p : Value → Prop) (v : Value) (n : Nat) (xs : List Value) (G : List Ent) : Prop :=
  xs.length = n * size ∧ ((∃ B, v = .slice B 0 0 ∧ n = 0 ∧ G = []) ∨
    ∃ g cap cur, v = .slice (some ⟨g, 0, none⟩) n cap ∧ n ≤ cap ∧ cap ≤ maxLen ∧ cur.size = cap * size ∧ cur.toList.take (n * size) = xs ∧ (∀ u ∈ cur.toList, p u) ∧ G = [⟨g, E, cur⟩])

theorem Grow.nil (E : TypeId) (size : Nat) (p : Value → Prop) : Grow E size p (.slice none 0 0) 0 [] [] := ⟨by simp, .inl ⟨none, rfl, rfl, rfl⟩⟩
theorem Grow.none (E : TypeId) (size : Nat) (p : Value → Prop) (B : Option Addr) : Grow E size p (.slice B 0 0) 0 [] [] := ⟨by simp, .inl ⟨B, rfl, rfl, rfl⟩⟩

theorem zero_mem {z : Array Value} {n : Nat} {u : Value} (h : u ∈ (Builtin.zeroCells z n).toList) (hz : 0 < z.size) : u ∈ z.toList := by
  unfold Builtin.zeroCells at h
  simp only [Array.toList_map, List.mem_map] at h
  obtain ⟨i, _, rfl⟩ := h
  have hi : i % z.size < z.size := Nat.mod_lt _ hz
  rw [getElem!_pos z _ hi]
  exact Array.mem_toList_iff.2 (Array.getElem_mem hi)

section
variable {P : Program} {w0 w : World} {W N G : List Ent}

theorem run_append_zero (t ty e : TypeId) (i : TypeInfo) (ht : P.underlying t = some (.slice e)) (hi : P.info? e = some i) (B A : Option Addr) (n cap c : Nat) (hn : n ≤ cap) :
    (Builtin.append_ #[t, t] ty #[.slice B n cap, .slice A 0 c]).run P w = .ok (.slice B n cap) w := by
  cases A <;> cases B <;> simp [Builtin.append_, run_underlying ht, sizeOf, typeInfo, hi, Builtin.lenOf, Builtin.firstCells, hn, storeCells, loadCells, loadCellsFrom]

theorem St.setAll {g : Nat} {t : TypeId} {c : Array Value} (c' : Array Value) (h : St w0 w W (⟨g, t, c⟩ :: N)) : St w0 (w.setRow g c') W (⟨g, t, c'⟩ :: N) := by
  have hb := h.blk (List.mem_cons_self)
  exact h.callN (N1 := []) (St.of_but (setRow_but g c') (setRow_blk hb) hb.lt)

theorem run_append_st (t ty e : TypeId) (i : TypeInfo) (z : Value) (size bytes : Nat) (p : Value → Prop) (ht : P.underlying t = some (.slice e)) (hi : P.info? e = some i) (hz : i.zero = some z)
    (hsize : i.size = size) (hby : i.bytes = bytes) (hzs : z.cells.size = size) (hsz : 0 < size) (hpz : ∀ u ∈ z.cells.toList, p u)
    (v : Value) (n : Nat) (xs : List Value) (h : St w0 w W (G ++ N)) (hg : Grow e size p v n xs G)
    (A : Option Addr) (m c : Nat) (news : List Value) (hl : news.length = m * size) (hnews : 0 < m → ∃ a, A = some a ∧ ∀ j u, news[j]? = some u → w.cell? (a.add j) = some u) (h1 : ∀ u ∈ news, u.oneCell' = true) (hp : ∀ u ∈ news, p u)
    (h63 : n + m ≤ maxLen) (hbytes : (n + m) * bytes ≤ 140737488355328) :
    ∃ v' w' G', (Builtin.append_ #[t, t] ty #[v, .slice A m c]).run P w = .ok v' w' ∧ St w0 w' W (G' ++ N) ∧ Grow e size p v' (n + m) (xs ++ news) G' ∧ (G' = [] → G = [] ∧ m = 0 ∧ v' = v) := by
  subst hsize
  subst hby
  have hsmall : n + m ≤ 9223372036854775807 := by simp only [maxLen] at h63; omega
  have hlen : (xs ++ news).length = (n + m) * i.size := by rw [List.length_append, hg.1, hl, Nat.add_mul]
  by_cases hm : m = 0
  · subst hm
    have hn : news = [] := List.eq_nil_of_length_eq_zero (by simpa using hl)
    subst hn
    have hv : ∃ B n' cap, v = .slice B n' cap ∧ n' ≤ cap := by
      rcases hg.2 with ⟨B, rfl, _⟩ | ⟨g, cap, cur, rfl, hnc, _⟩
      · exact ⟨B, 0, 0, rfl, Nat.le_refl _⟩
      · exact ⟨_, _, _, rfl, hnc⟩
    obtain ⟨B, n', cap, rfl, hle⟩ := hv
    exact ⟨_, w, G, run_append_zero t ty e i ht hi B A n' cap c hle, h, by simpa using hg, fun e => ⟨e, rfl, rfl⟩⟩
  obtain ⟨a, rfl, hsrc⟩ := hnews (by omega)
  have fresh : ∀ (old : Nat), St w0 (w.drew.alloc (.cells (xs.toArray ++ news.toArray ++ Builtin.zeroCells z.cells (grownCap w (n + m) old e - (n + m))) e)) W
      (⟨w.heap.size, e, xs.toArray ++ news.toArray ++ Builtin.zeroCells z.cells (grownCap w (n + m) old e - (n + m))⟩ :: (G ++ N)) := fun old => h.drew.alloc _ _
  have grown : ∀ (old : Nat), (∀ u ∈ xs, p u) → Grow e i.size p (.slice (some ⟨w.heap.size, 0, none⟩) (n + m) (grownCap w (n + m) old e)) (n + m) (xs ++ news)
      [⟨w.heap.size, e, xs.toArray ++ news.toArray ++ Builtin.zeroCells z.cells (grownCap w (n + m) old e - (n + m))⟩] := by
    intro old hxp
    have hge := grownCap_ge w (n + m) old e
    have hcm : grownCap w (n + m) old e ≤ maxLen := grownCap_le_maxLen w (n + m) old e h63
    refine ⟨hlen, .inr ⟨_, _, _, rfl, hge, hcm, ?_, ?_, ?_, rfl⟩⟩
    · simp only [Array.size_append, List.size_toArray, size_zeroCells, hzs, hg.1, hl, ← Nat.add_mul]
      congr 1
      omega
    · simp only [Array.toList_append, List.append_assoc]
      rw [← List.append_assoc, ← hlen]
      exact List.take_left
    · intro u hu
      simp only [Array.toList_append, List.mem_append] at hu
      rcases hu with (hu | hu) | hu
      · exact hxp u hu
      · exact hp u hu
      · exact hpz u (zero_mem hu (by omega))
  rcases hg.2 with ⟨B, rfl, rfl, rfl⟩ | ⟨g, cap, cur, rfl, hnc, hcm, hcs, htake, hcp, rfl⟩
  · have hx : xs = [] := List.eq_nil_of_length_eq_zero (by simpa using hg.1)
    subst hx
    cases B with
    | some b =>
      have hr := run_append_grow (P := P) w t ty e i z ht hi hz b 0 0 [] (by simp) (by simp) a m c news hl hsrc (by omega) (by omega) (growslice_fits (by omega) hbytes)
      have h2 := fresh 0
      have h3 := grown 0 (by simp)
      exact ⟨_, _, _, hr, h2, h3, fun e => by simp at e⟩
    | none =>
      have hr := run_append_nil (P := P) w t ty e i z ht hi hz a m c news hl hsrc (by omega) (by omega) (by have hb := hbytes; simp only [Nat.zero_add] at hb; omega)
      have h2 := fresh 0
      have h3 := grown 0 (by simp)
      simp only [Nat.zero_add, List.nil_append, Array.empty_append] at h2 h3 ⊢
      exact ⟨_, _, _, hr, h2, h3, fun e => by simp at e⟩
  · have hb : Blk w g e cur := h.blk (List.mem_cons_self)
    by_cases hroom : n + m ≤ cap
    · have hfit : n * i.size + news.length ≤ cur.size := by rw [hl, hcs, ← Nat.add_mul]; exact Nat.mul_le_mul_right _ hroom
      have hr := run_append_room (P := P) w t ty e i ht hi g n cap cur hb a m c news hl hsrc h1 hroom hfit
      refine ⟨_, _, [⟨g, e, _⟩], hr, h.setAll _, ⟨hlen, .inr ⟨g, cap, _, rfl, hroom, hcm, ?_, ?_, ?_, rfl⟩⟩, fun e => by simp at e⟩
      · simp only [List.size_toArray, List.length_append, List.length_take, List.length_drop, Array.length_toList]
        omega
      · rw [htake, ← hlen]
        exact List.take_left
      · intro u hu
        simp only [List.mem_append] at hu
        rcases hu with (hu | hu) | hu
        · exact hcp u (List.mem_of_mem_take hu)
        · exact hp u hu
        · exact hcp u (List.mem_of_mem_drop hu)
    · have holds : ∀ j u, xs[j]? = some u → w.cell? ((⟨g, 0, none⟩ : Addr).add j) = some u := by
        intro j u hu
        have e1 : (⟨g, 0, none⟩ : Addr).add j = ⟨g, j, none⟩ := by unfold Addr.add; split <;> simp_all
        rw [e1]
        refine hb.cell ?_
        rw [← htake, List.getElem?_take] at hu
        split at hu
        · simpa using hu
        · cases hu
      have hr := run_append_grow (P := P) w t ty e i z ht hi hz ⟨g, 0, none⟩ n cap xs hg.1 holds a m c news hl hsrc (by omega) (by omega) (growslice_fits (by omega) hbytes)
      have h2 := fresh cap
      refine ⟨_, _, [_], hr, h2.drop (.cons_cons _ (.cons _ (List.Sublist.refl _))), grown cap ?_, fun e => by simp at e⟩
      intro u hu
      rw [← htake] at hu
      exact hcp u (List.mem_of_mem_take hu)

variable {ops : Array Oper} {rest : List Oper} {o : Oper} {a : Act} {Q : Exit → Act → World → Prop}

theorem wpList_append_st (hgd : o.guard = none) (s x : Operand) (t : TypeId)
    (ho : o.op = .call { callee := .builtin .append, args := #[s, x], argTypes := #[t, t] })
    (e : TypeId) (z : Value) (size bytes : Nat) (p : Value → Prop) (ht : P.underlying t = some (.slice e)) (hinfo : (P.info? e).map (fun i => (i.zero, i.size, i.bytes)) = some (some z, size, bytes)) (hzs : z.cells.size = size) (hsz : 0 < size) (hpz : ∀ u ∈ z.cells.toList, p u)
    (v : Value) (n : Nat) (xs : List Value) (hs : a.eval s = v) (h : St w0 w W (G ++ N)) (hg : Grow e size p v n xs G)
    (A : Option Addr) (m c : Nat) (news : List Value) (hx : a.eval x = .slice A m c) (hl : news.length = m * size) (hnews : 0 < m → ∃ a, A = some a ∧ ∀ j u, news[j]? = some u → w.cell? (a.add j) = some u) (h1 : ∀ u ∈ news, u.oneCell' = true) (hp : ∀ u ∈ news, p u)
    (h63 : n + m ≤ maxLen) (hbytes : (n + m) * bytes ≤ 140737488355328)
    (hK : ∀ v' w' G', St w0 w' W (G' ++ N) → Grow e size p v' (n + m) (xs ++ news) G' → (G' = [] → G = [] ∧ m = 0 ∧ v' = v) → wpList P ops Q rest (a.put o.dst v') w') : wpList P ops Q (o :: rest) a w := by
  cases hi : P.info? e with
  | none => rw [hi] at hinfo; cases hinfo
  | some i =>
    rw [hi] at hinfo
    simp only [Option.map_some, Option.some.injEq, Prod.mk.injEq] at hinfo
    obtain ⟨hz, hsize, hby⟩ := hinfo
    obtain ⟨v', w', G', hr, h2, h3, h4⟩ := run_append_st (P := P) t o.type e i z size bytes p ht hi hz hsize hby hzs hsz hpz v n xs h hg A m c news hl hnews h1 hp h63 hbytes
    refine wpList_plain hgd fun K hKK => ?_
    unfold Oper.wp execOp
    simp only [ho, resolve, invoke, builtin, Sem.run_bind, Sem.run_pure, Result.andThen_ok, List.map_toArray, List.map_cons, List.map_nil, hs, hx, hr]
    exact hKK _ _ (hK v' w' G' h2 h3 h4)
end

/-- A byte in a cell. -/
def isB (u : Value) : Prop := ∃ x : Nat, x < 256 ∧ u = .int .u8 (x : Int)
theorem cells_row {c : Array Value} (h : ∀ u ∈ c.toList, isB u) : ∃ D : List Nat, c = row .u8 D ∧ B8 D := by
  have key : ∀ l : List Value, (∀ u ∈ l, isB u) → ∃ D : List Nat, l = D.map (fun (x : Nat) => Value.int .u8 (x : Int)) ∧ B8 D := by
    intro l
    induction l with
    | nil => exact fun _ => ⟨[], rfl, fun _ h => by simp at h⟩
    | cons u l ih =>
      intro h
      obtain ⟨x, hx, rfl⟩ := h u (by simp)
      obtain ⟨D, rfl, hD⟩ := ih fun u hu => h u (by simp [hu])
      refine ⟨x :: D, rfl, fun y hy => ?_⟩
      rcases List.mem_cons.1 hy with rfl | hy
      · exact hx
      · exact hD y hy
  obtain ⟨D, hD, h8⟩ := key _ h
  refine ⟨D, ?_, h8⟩
  rw [← Array.toArray_toList (xs := c), hD]
  rfl
/-- The cells of a list of bytes. -/
def cellsB (l : List Nat) : List Value := l.map fun (x : Nat) => Value.int .u8 (x : Int)
theorem cellsB_length (l : List Nat) : (cellsB l).length = l.length := by simp [cellsB]
theorem cellsB_one (l : List Nat) : ∀ u ∈ cellsB l, u.oneCell' = true := by
  intro u hu
  obtain ⟨x, _, rfl⟩ := List.mem_map.1 hu
  rfl
theorem cellsB_is {l : List Nat} (h : B8 l) : ∀ u ∈ cellsB l, isB u := by
  intro u hu
  obtain ⟨x, hx, rfl⟩ := List.mem_map.1 hu
  exact ⟨x, h x hx, rfl⟩
theorem cellsB_append (l k : List Nat) : cellsB (l ++ k) = cellsB l ++ cellsB k := by simp [cellsB]
theorem cellsB_inj {l k : List Nat} (h : cellsB l = cellsB k) : l = k := by
  have hm : Function.Injective (fun (x : Nat) => Value.int .u8 (x : Int)) := fun a b h => by injection h with _ h; omega
  exact (List.map_inj_right fun a b h => hm h).1 h
theorem add_none (b o j : Nat) : (⟨b, o, none⟩ : Addr).add j = ⟨b, o + j, none⟩ := by
  unfold Addr.add; split <;> simp_all
theorem _root_.Go.Proofs.Ytdbfkjhdnbmpeaa.Mm.Rd.cells {w : World} {A : Option Addr} {l : List Nat} (r : Rd w A l) : 0 < l.length → ∃ a, A = some a ∧ ∀ j u, (cellsB l)[j]? = some u → w.cell? (a.add j) = some u := by
  intro h0
  obtain ⟨b, o, rfl, hc⟩ := r h0
  refine ⟨_, rfl, fun j u hu => ?_⟩
  have hj : j < l.length := by
    rcases Nat.lt_or_ge j l.length with h1 | h1
    · exact h1
    · rw [List.getElem?_eq_none (by rw [cellsB_length]; exact h1)] at hu; cases hu
  rw [add_none, hc j hj, ← hu]
  simp [cellsB, hj]

/-- A growing slice of bytes. -/
abbrev GrowB (v : Value) (l : List Nat) (G : List Ent) : Prop := Grow 5 1 isB v l.length (cellsB l) G
theorem GrowB.nil : GrowB (.slice none 0 0) [] [] := Grow.nil _ _ _
/-- .. what it is that isn't nil. -/
theorem GrowB.some {v : Value} {l : List Nat} {G : List Ent} (h : GrowB v l G) (hv : G ≠ []) : ∃ b D, v = .slice (some ⟨b, 0, none⟩) l.length D.length ∧ l.length ≤ D.length ∧ D.length ≤ maxLen ∧ B8 D ∧ D.take l.length = l ∧ G = [bt b D] := by
  rcases h.2 with ⟨_, _, _, h1⟩ | ⟨g, cap, cur, rfl, hnc, hcm, hcs, htake, hp, rfl⟩
  · exact (hv h1).elim
  · obtain ⟨D, rfl, h8⟩ := cells_row hp
    rw [row_size, Nat.mul_one] at hcs
    subst hcs
    refine ⟨g, D, rfl, hnc, hcm, h8, ?_, rfl⟩
    apply cellsB_inj
    rw [← htake, Nat.mul_one]
    simp [row, cellsB, List.map_take]
theorem GrowB.of_blk {b : Nat} {l : List Nat} (h8 : B8 l) (hm : l.length ≤ maxLen) : GrowB (.slice (Option.some ⟨b, 0, none⟩) l.length l.length) l [bt b l] :=
  ⟨by simp [cellsB], .inr ⟨b, l.length, row .u8 l, rfl, Nat.le_refl _, hm, by rw [row_size, Nat.mul_one], by
    rw [Nat.mul_one]
    apply List.take_of_length_le
    simp [row], fun u hu => by
      simp only [row, List.mem_map] at hu
      obtain ⟨x, hx, rfl⟩ := hu
      exact ⟨x, h8 x hx, rfl⟩, rfl⟩⟩
/-- .. how it reads. -/
theorem GrowB.rd {v : Value} {l : List Nat} {G N W : List Ent} {w0 w : World} (h : GrowB v l G) (hs : St w0 w W (G ++ N)) : ∃ A c, v = .slice A l.length c ∧ Rd w A l := by
  by_cases hv : G = []
  · subst hv
    rcases h.2 with ⟨B, rfl, h2, _⟩ | ⟨g, cap, cur, _, _, _, _, _, _, h1⟩
    · obtain rfl : l = [] := List.eq_nil_of_length_eq_zero h2
      exact ⟨B, 0, rfl, Rd.nil _ _⟩
    · simp at h1
  · obtain ⟨b, D, rfl, hle, _, _, ht, rfl⟩ := h.some hv
    have hr := (hs.rd (List.mem_cons_self)).piece 0 l.length
    rw [List.drop_zero, ht] at hr
    exact ⟨_, _, rfl, hr⟩

theorem GrowB.mkBlk {b n cap : Nat} {D l : List Nat} (hle : n ≤ D.length) (hcap : D.length = cap) (hm : cap ≤ maxLen) (h8 : B8 D) (ht : D.take n = l) (hn : l.length = n) : GrowB (.slice (Option.some ⟨b, 0, Option.none⟩) n cap) l [bt b D] := by
  subst hn hcap
  refine ⟨by simp [cellsB], .inr ⟨b, D.length, row .u8 D, rfl, hle, hm, by rw [row_size, Nat.mul_one], ?_, fun u hu => ?_, rfl⟩⟩
  · rw [Nat.mul_one]
    conv => rhs; rw [← ht]
    simp [row, cellsB, List.map_take]
  · simp only [row, List.mem_map] at hu
    obtain ⟨x, hx, rfl⟩ := hu
    exact ⟨x, h8 x hx, rfl⟩
theorem GrowB.shape {v : Value} {l : List Nat} {G : List Ent} (h : GrowB v l G) : ∃ A c, v = .slice A l.length c := by
  rcases h.2 with ⟨B, rfl, h0, _⟩ | ⟨g, cap, cur, rfl, _⟩
  · rw [h0]; exact ⟨B, 0, rfl⟩
  · exact ⟨_, _, rfl⟩
theorem GrowB.read {A : Option Addr} {n c : Nat} {l : List Nat} {G N W : List Ent} {w0 w : World} (h : GrowB (.slice A n c) l G) (hs : St w0 w W N) (hm : ∀ e ∈ G, e ∈ N) : Rd w A l := by
  rcases h.2 with ⟨B, e, h2, _⟩ | ⟨g, cap, cur, e, hnc, hcm, hcs, htake, hp, rfl⟩
  · obtain rfl : l = [] := List.eq_nil_of_length_eq_zero h2
    exact Rd.nil _ _
  · injection e with e1 e2 e3
    subst e1
    obtain ⟨D, rfl, h8⟩ := cells_row hp
    have hr := (hs.rd (hm _ (List.mem_singleton.2 rfl))).piece 0 l.length
    rw [List.drop_zero] at hr
    have e : D.take l.length = l := by
      apply cellsB_inj
      rw [← htake, Nat.mul_one]
      simp [row, cellsB, List.map_take]
    rw [e] at hr
    exact hr

/-- A list of the call's own, and a number. -/
def RefR (w : World) (l : List Nat) (f : Int) (e : Ending) (w' : World) : Prop :=
  ∃ A cp m G, m = l.length ∧ e = .returned (.tuple #[.slice A m cp, .int .i64 f]) ∧ St w w' [] G ∧ GrowB (.slice A m cp) l G
/-- Two lists of the call's own. -/
def Two (w : World) (l1 l2 : List Nat) (e : Ending) (w' : World) : Prop :=
  ∃ v1 v2 G1 G2, e = .returned (.tuple #[v1, v2]) ∧ St w w' [] (G2 ++ G1) ∧ GrowB v1 l1 G1 ∧ GrowB v2 l2 G2

section
variable {w0 w : World} {W N G : List Ent} {ops : Array Oper} {rest : List Oper} {o : Oper} {a : Act} {Q : Exit → Act → World → Prop}
/-- append of bytes, to a slice of the call's own. -/
theorem append_bytes (hgd : o.guard = none) (s x : Operand)
    (ho : o.op = .call { callee := .builtin .append, args := #[s, x], argTypes := #[39, 39] })
    (v : Value) (l : List Nat) (hs : a.eval s = v) (h : St w0 w W (G ++ N)) (hg : GrowB v l G)
    (A : Option Addr) (m c : Nat) (k : List Nat) (hx : a.eval x = .slice A m c) (hm : k.length = m) (hr : Rd w A k) (h8 : B8 k) (hb : l.length + k.length ≤ 140737488355328)
    (hK : ∀ v' w' G', St w0 w' W (G' ++ N) → GrowB v' (l ++ k) G' → (G' = [] → G = [] ∧ m = 0 ∧ v' = v) → wpList Try.prog ops Q rest (a.put o.dst v') w') : wpList Try.prog ops Q (o :: rest) a w := by
  subst hm
  refine wpList_append_st (P := Try.prog) hgd s x 39 ho 5 (.int .u8 0) 1 1 isB Try.underlying39 info_u8 rfl (by decide) (fun u hu => ⟨0, by decide, by simpa [Value.cells] using hu⟩) v l.length (cellsB l) hs h hg A k.length c (cellsB k) hx (by simp [cellsB]) (Rd.cells hr) (cellsB_one k) (cellsB_is h8) (by unfold maxLen; omega) (by omega) fun v' w' G' h1 h2 h3 => ?_
  refine hK v' w' G' h1 ?_ h3
  rw [← cellsB_append] at h2
  unfold GrowB
  rw [List.length_append]
  exact h2
/-- .. as a step of a region that draws its order. -/
theorem step_append {K : Act → World → Prop} {E : Prop} (hgd : o.guard = none) (s x : Operand)
    (ho : o.op = .call { callee := .builtin .append, args := #[s, x], argTypes := #[39, 39] })
    (v : Value) (l : List Nat) (hs : a.eval s = v) (h : St w0 w W (G ++ N)) (hg : GrowB v l G)
    (A : Option Addr) (m c : Nat) (k : List Nat) (hx : a.eval x = .slice A m c) (hm : k.length = m) (hr : Rd w A k) (h8 : B8 k) (hb : l.length + k.length ≤ 140737488355328)
    (hK : ∀ v' w' G', St w0 w' W (G' ++ N) → GrowB v' (l ++ k) G' → (G' = [] → G = [] ∧ m = 0 ∧ v' = v) → K (a.put o.dst v') w') :
    if Region.wanted o (yielded ops a.tmps) = true then Oper.wp Try.prog o a w K Q else E := by
  subst hm
  have hw : Region.wanted o (yielded ops a.tmps) = true := by simp [Region.wanted, hgd]
  rw [if_pos hw]
  obtain ⟨i, hi⟩ : ∃ i, Try.prog.info? 5 = some i := by
    have := info_u8
    cases hi : Try.prog.info? 5 with
    | none => rw [hi] at this; cases this
    | some i => exact ⟨i, rfl⟩
  have hinfo := info_u8
  rw [hi] at hinfo
  simp only [Option.map_some, Option.some.injEq, Prod.mk.injEq] at hinfo
  obtain ⟨hz, hsize, hby⟩ := hinfo
  obtain ⟨v', w', G', hrun, h2, h3, h4⟩ := run_append_st (P := Try.prog) 39 o.type 5 i (.int .u8 0) 1 1 isB Try.underlying39 hi hz hsize hby rfl (by decide) (fun u hu => ⟨0, by decide, by simpa [Value.cells] using hu⟩) v l.length (cellsB l) h hg A k.length c (cellsB k) (by simp [cellsB]) (Rd.cells hr) (cellsB_one k) (cellsB_is h8) (by unfold maxLen; omega) (by omega)
  unfold Oper.wp execOp
  simp only [ho, resolve, invoke, builtin, Sem.run_bind, Sem.run_pure, Result.andThen_ok, List.map_toArray, List.map_cons, List.map_nil, hs, hx, hrun]
  refine hK v' w' G' h2 ?_ h4
  rw [← cellsB_append] at h3
  unfold GrowB
  rw [List.length_append]
  exact h3
end

theorem wr_splice (D l : List Nat) (off : Nat) (h : off + l.length ≤ D.length) : Wr.wr D off l = D.take off ++ (l ++ D.drop (off + l.length)) := by
  have h1 := wr_mid (D.take off) ((D.drop off).take l.length) (D.drop (off + l.length)) l (by rw [List.length_take, List.length_drop]; omega)
  rw [List.length_take, Nat.min_eq_left (by omega)] at h1
  have e : D.take off ++ (D.drop off).take l.length ++ D.drop (off + l.length) = D := by
    rw [List.append_assoc, ← List.drop_drop, List.take_append_drop, List.take_append_drop]
  rw [e] at h1
  rw [h1, List.append_assoc]
theorem row_splice {D l : List Nat} {off : Nat} (h : off + l.length ≤ D.length) : ((row .u8 D).toList.take off ++ (cellsB l ++ (row .u8 D).toList.drop (off + (cellsB l).length))).toArray = row .u8 (Wr.wr D off l) := by
  rw [wr_splice D l off h, cellsB_length]
  simp [row, cellsB, List.map_take, List.map_drop]

section
variable {w0 w : World} {W N N1 N2 : List Ent} {ops : Array Oper} {rest : List Oper} {o : Oper} {a : Act} {Q : Exit → Act → World → Prop}
/-- copy of bytes into a list of the call's own. -/
theorem copy_bytes (hgd : o.guard = none) (d s : Operand)
    (ho : o.op = .call { callee := .builtin .copy, args := #[d, s], argTypes := #[39, 39] })
    (g off dLen dCap : Nat) (t : TypeId) (D : List Nat) (h : St w0 w W (N1 ++ ⟨g, t, row .u8 D⟩ :: N2)) (hd : a.eval d = .slice (some ⟨g, off, none⟩) dLen dCap)
    (A : Option Addr) (sLen sCap : Nat) (hs : a.eval s = .slice A sLen sCap) (l : List Nat) (hl : l.length = Nat.min sLen dLen) (hr : Rd w A l) (hfit : off + l.length ≤ D.length)
    (hK : ∀ w', St w0 w' W (N1 ++ ⟨g, t, row .u8 (Wr.wr D off l)⟩ :: N2) → wpList Try.prog ops Q rest (a.put o.dst (goInt l.length)) w') : wpList Try.prog ops Q (o :: rest) a w := by
  have hsz : (Try.prog.info? 5).map (·.size) = some 1 := by kernel_rfl
  by_cases h0 : l.length = 0
  · obtain rfl : l = [] := List.eq_nil_of_length_eq_zero h0
    exact wpList_copy_nothing hgd d s _ _ ho 5 Try.underlying39 hsz _ A dLen dCap sLen sCap hd hs (by simpa using hl.symm) (hK w h)
  · obtain ⟨ad, rfl, hc⟩ := Rd.cells hr (by omega)
    have hb : Blk w g t (row .u8 D) := h.blk (by simp)
    refine wpList_copy_own hgd d s _ _ ho 5 Try.underlying39 hsz g off dLen dCap ad sLen sCap hd hs (row .u8 D) t hb (cellsB l) (by rw [cellsB_length]; exact hl) hc (by rw [cellsB_length, row_size]; exact hfit) (cellsB_one l) ?_
    rw [row_splice hfit, cellsB_length]
    exact hK _ (by have := h.callN (St.of_but (setRow_but g (row .u8 (Wr.wr D off l))) (setRow_blk hb) hb.lt); exact this)
end

theorem St.rdTake {w0 w : World} {W N : List Ent} {b n : Nat} {t : TypeId} {D l : List Nat} (h : St w0 w W N) (m : (⟨b, t, row .u8 D⟩ : Ent) ∈ N) (e : D.take n = l) : Rd w (some ⟨b, 0, none⟩) l := by
  have hr := (h.rd m).piece 0 n
  rw [List.drop_zero, e] at hr
  exact hr
theorem getD_take {D l : List Nat} {n i : Nat} (e : D.take n = l) (hi : i < l.length) : D.getD i 0 = l.getD i 0 := by
  subst e
  rw [List.length_take] at hi
  simp [List.getElem?_take, show i < n by omega]

/-- Where a slice of a slice begins. -/
def cutA (A : Option Addr) (cap lo : Nat) : Option Addr := if cap = lo then A else A.map (·.add lo)
theorem cutA_some {b o : Nat} (cap lo : Nat) : ∃ od, cutA (some ⟨b, o, none⟩) cap lo = some ⟨b, od, none⟩ ∧ od ≤ o + lo ∧ (cap ≠ lo → od = o + lo) := by
  unfold cutA
  by_cases h : cap = lo
  · rw [if_pos h]; exact ⟨o, rfl, by omega, fun h' => (h' h).elim⟩
  · rw [if_neg h, Option.map_some, add_none]; exact ⟨o + lo, rfl, Nat.le_refl _, fun _ => rfl⟩
theorem cutA_zero {A : Option Addr} (cap : Nat) : cutA A cap 0 = A := by
  unfold cutA
  cases A with
  | none => simp
  | some a =>
    have : a.add 0 = a := by unfold Addr.add; simp
    simp [this]
theorem _root_.Go.Proofs.Ytdbfkjhdnbmpeaa.Mm.Rd.cut {w : World} {A : Option Addr} {l : List Nat} (r : Rd w A l) (cap lo n : Nat) (h : l.length ≤ cap) : Rd w (cutA A cap lo) ((l.drop lo).take n) := by
  intro h0
  rw [List.length_take, List.length_drop] at h0
  obtain ⟨b, o, rfl, hc⟩ := r (by omega)
  have hr : Rd w (some ⟨b, o, none⟩) l := fun _ => ⟨b, o, rfl, hc⟩
  unfold cutA
  rw [if_neg (by omega), Option.map_some, add_none]
  exact hr.piece lo n (by rw [List.length_take, List.length_drop]; omega)

section
variable {P : Program} {w : World} {ops : Array Oper} {rest : List Oper} {o : Oper} {a : Act} {Q : Exit → Act → World → Prop}
theorem run_cut (t e : TypeId) (ht : P.underlying t = some (.slice e)) (hsz : (P.info? e).map (·.size) = some 1) (A : Option Addr) (len cap lo n : Nat) (lv hv : Option Value)
    (hl : (lv = none ∧ lo = 0) ∨ lv = some (.int .i64 (lo : Nat))) (hh : (hv = none ∧ lo + n = len) ∨ hv = some (.int .i64 ((lo + n : Nat) : Int))) (hc : lo + n ≤ cap) :
    (Instr.slice t (.slice A len cap) lv hv none).run P w = .ok (.slice (cutA A cap lo) n (cap - lo)) w := by
  cases hi : P.info? e with
  | none => rw [hi] at hsz; cases hsz
  | some i =>
    have hi1 : i.size = 1 := by rw [hi] at hsz; simpa using hsz
    have h0 : (0 : Int) ≤ (lo : Int) + (n : Int) := by omega
    have h1 : (lo : Int) + (n : Int) ≤ (cap : Int) := by omega
    have h2 : ((lo : Int) + (n : Int)).toNat = lo + n := by omega
    have h3 : (lo : Int) ≤ ((lo + n : Nat) : Int) := by omega
    have h4 : lo + n - lo = n := by omega
    unfold cutA
    rcases hl with ⟨rfl, rfl⟩ | rfl <;> rcases hh with ⟨rfl, rfl⟩ | rfl <;>
      simp [Instr.slice, Instr.sliceBounds, Instr.sliceBound, asIntOf, run_underlying ht, sizeOf, typeInfo, hi, hi1, h0, h1, h2, h3, h4]
    all_goals omega
theorem slice_law (hgd : o.guard = none) (t e : TypeId) (ht : P.underlying t = some (.slice e)) (hsz : (P.info? e).map (·.size) = some 1) (x : Operand) (lO hO : Option Operand) (ho : o.op = .slice t x lO hO none)
    (A : Option Addr) (len cap lo n : Nat) (hx : a.eval x = .slice A len cap) (y z : Int) (hl : (lO = none ∧ lo = 0) ∨ lO.map a.eval = some (.int .i64 y) ∧ y = (lo : Int)) (hh : (hO = none ∧ lo + n = len) ∨ hO.map a.eval = some (.int .i64 z) ∧ z = ((lo + n : Nat) : Int)) (hc : lo + n ≤ cap)
    (hK : wpList P ops Q rest (a.put o.dst (.slice (cutA A cap lo) n (cap - lo))) w) : wpList P ops Q (o :: rest) a w := by
  refine ev hgd (v := .slice (cutA A cap lo) n (cap - lo)) ?_ hK
  unfold execOp
  simp only [ho, hx, Option.map_none]
  have hl' : (lO.map a.eval = none ∧ lo = 0) ∨ lO.map a.eval = some (.int .i64 (lo : Nat)) := by
    rcases hl with ⟨rfl, h⟩ | ⟨h, rfl⟩
    · exact .inl ⟨rfl, h⟩
    · exact .inr h
  have hh' : (hO.map a.eval = none ∧ lo + n = len) ∨ hO.map a.eval = some (.int .i64 ((lo + n : Nat) : Int)) := by
    rcases hh with ⟨rfl, h⟩ | ⟨h, rfl⟩
    · exact .inl ⟨rfl, h⟩
    · exact .inr h
  have e1 : (Instr.sliceAt t (.slice A len cap) (lO.map a.eval) (hO.map a.eval) none).run P w = .ok (.slice (cutA A cap lo) n (cap - lo)) w := by
    unfold Instr.sliceAt
    simp only [Sem.run_bind, run_underlying ht, Result.andThen_ok]
    exact run_cut t e ht hsz A len cap lo n _ _ hl' hh' hc
  simp only [Sem.run_bind, e1, Result.andThen_ok, Sem.run_pure]
end

section
variable {w0 w : World} {W N : List Ent} {ops : Array Oper} {rest : List Oper} {o : Oper} {a : Act} {Q : Exit → Act → World → Prop}
/-- append(b, k...), b a list of bytes of the call's own that is there whole. -/
theorem append_on (hgd : o.guard = none) (s x : Operand)
    (ho : o.op = .call { callee := .builtin .append, args := #[s, x], argTypes := #[39, 39] })
    (b0 n0 : Nat) (D0 l : List Nat) (hn0 : l.length = n0) (hs : a.eval s = .slice (some ⟨b0, 0, none⟩) n0 D0.length) (h : St w0 w W (bt b0 D0 :: N)) (hle : n0 ≤ D0.length) (hm0 : D0.length ≤ maxLen) (hD8 : B8 D0) (ht : D0.take n0 = l)
    (A : Option Addr) (m c : Nat) (k : List Nat) (hx : a.eval x = .slice A m c) (hm : k.length = m) (hr : Rd w A k) (h8 : B8 k) (hb : n0 + m ≤ 140737488355328)
    (hK : ∀ b D w', n0 + m ≤ D.length → D.length ≤ maxLen → B8 D → D.take (n0 + m) = l ++ k → St w0 w' W (bt b D :: N) → wpList Try.prog ops Q rest (a.put o.dst (.slice (some ⟨b, 0, none⟩) (n0 + m) D.length)) w') : wpList Try.prog ops Q (o :: rest) a w := by
  subst hn0
  have hg : GrowB (.slice (some ⟨b0, 0, none⟩) l.length D0.length) l [bt b0 D0] :=
    ⟨by simp [cellsB], .inr ⟨b0, D0.length, row .u8 D0, rfl, hle, hm0, by rw [row_size, Nat.mul_one], by
      rw [Nat.mul_one, ← ht]
      simp [row, cellsB, List.map_take, Nat.min_eq_left hle], fun u hu => by
        simp only [row, List.mem_map] at hu
        obtain ⟨x, hx, rfl⟩ := hu
        exact ⟨x, hD8 x hx, rfl⟩, rfl⟩⟩
  refine append_bytes (G := [bt b0 D0]) (N := N) hgd s x ho _ l hs h hg A m c k hx hm hr h8 (by rw [hm]; exact hb) fun v' w' G' h1 h2 h3 => ?_
  obtain ⟨b, D, e, g1, g2, g3, g4, rfl⟩ := h2.some (fun e => by have := (h3 e).1; simp at this)
  rw [List.length_append, hm] at e g1 g4
  subst e
  exact hK b D w' g1 g2 g3 g4 h1
/-- append([]byte{}, k...). -/
theorem append_clone (hgd : o.guard = none) (s x : Operand)
    (ho : o.op = .call { callee := .builtin .append, args := #[s, x], argTypes := #[39, 39] })
    (b0 : Nat) (hs : a.eval s = .slice (some ⟨b0, 0, none⟩) 0 0) (h : St w0 w W (bt b0 [] :: N))
    (A : Option Addr) (m c : Nat) (k : List Nat) (hx : a.eval x = .slice A m c) (hm : k.length = m) (hr : Rd w A k) (h8 : B8 k) (hb : m ≤ 140737488355328)
    (hK : ∀ b D w', m ≤ D.length → D.length ≤ maxLen → B8 D → D.take m = k → St w0 w' W (bt b D :: N) → wpList Try.prog ops Q rest (a.put o.dst (.slice (some ⟨b, 0, none⟩) m D.length)) w') : wpList Try.prog ops Q (o :: rest) a w := by
  refine append_on hgd s x ho b0 0 [] [] rfl hs h (Nat.le_refl _) (Nat.zero_le _) (fun _ h => by simp at h) rfl A m c k hx hm hr h8 (by omega) fun b D w' h1 h2 h3 h4 h5 => ?_
  rw [Nat.zero_add] at h1 h4 ⊢
  exact hK b D w' h1 h2 h3 h4 h5
end

section
variable {P : Program} {w0 w : World} {W N : List Ent} {ops : Array Oper} {rest : List Oper} {o : Oper} {a : Act} {Q : Exit → Act → World → Prop}
/-- A struct's value laid into a block of its own: the block under a name. -/
theorem box_law (hgd : o.guard = none) (t : TypeId) (x : Operand) (cs : Array Value) (ho : o.op = .box t x) (hx : a.eval x = .agg cs) (h : St w0 w W N)
    (hK : ∀ b w', St w0 w' W (⟨b, t, cs⟩ :: N) → wpList P ops Q rest (a.put o.dst (.pointer (some ⟨b, 0, none⟩))) w') : wpList P ops Q (o :: rest) a w :=
  ev hgd (box_run t x cs ho hx) (hK _ _ (h.alloc t cs))
/-- make: n zeros. -/
theorem make_law (hgd : o.guard = none) (t e : TypeId) (x : Operand) (k : IntKind) (n bytes : Nat) (ho : o.op = .makeSlice t x x) (hx : a.eval x = .int .i64 (n : Int))
    (ht : P.underlying t = some (.slice e)) (hinfo : (P.info? e).map (fun i => (i.zero, i.size, i.bytes)) = some (some (.int k 0), 1, bytes)) (hb : bytes * n ≤ 281474976710656) (hc : n ≤ 9223372036854775807) (h : St w0 w W N)
    (hK : ∀ b w', St w0 w' W (⟨b, e, row k (zs n)⟩ :: N) → wpList P ops Q rest (a.put o.dst (.slice (some ⟨b, 0, none⟩) n n)) w') : wpList P ops Q (o :: rest) a w :=
  ev hgd (make_zs t e x x k .i64 .i64 n n bytes ho hx hx ht hinfo (Nat.le_refl _) hb hc) (hK _ _ (h.alloc e _))
end
theorem St.rdWr {w0 w : World} {W N : List Ent} {b od : Nat} {t : TypeId} {D l : List Nat} (h : St w0 w W N) (m : (⟨b, t, row .u8 (Wr.wr D od l)⟩ : Ent) ∈ N) (hf : od + l.length ≤ D.length) : Rd w (some ⟨b, od, none⟩) l := by
  have hr := (h.rd m).piece od l.length
  rw [Nat.zero_add] at hr
  have e : ((Wr.wr D od l).drop od).take l.length = l := by
    apply List.ext_getElem?
    intro j
    rw [List.getElem?_take, List.getElem?_drop]
    by_cases hj : j < l.length
    · rw [if_pos hj, wr_get _ _ _ _ hf, if_pos (by omega)]; congr 1; omega
    · rw [if_neg hj, List.getElem?_eq_none (by omega)]
  rw [e] at hr
  exact hr

theorem GrowB.full {v : Value} {l : List Nat} {G : List Ent} (h : GrowB v l G) (h0 : 0 < l.length) : ∃ b D, v = .slice (Option.some ⟨b, 0, none⟩) l.length D.length ∧ l.length ≤ D.length ∧ D.take l.length = l ∧ G = [bt b D] := by
  have hG : G ≠ [] := by
    intro e
    subst e
    rcases h.2 with ⟨_, _, h1, _⟩ | ⟨_, _, _, _, _, _, _, _, _, h1⟩
    · omega
    · simp at h1
  obtain ⟨b, D, h1, h2, _, _, h3, h4⟩ := h.some hG
  exact ⟨b, D, h1, h2, h3, h4⟩

end Go.Proofs.Ytdbfkjhdnbmpeaa.St
