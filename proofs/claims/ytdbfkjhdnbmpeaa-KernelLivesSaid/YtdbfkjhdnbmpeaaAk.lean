/- Words on memory: append that keeps the list it grew from, and families of lists that share no memory. -/
import Derived.Test.YtdbfkjhdnbmpeaaGv
import Derived.OrdersHeld
import Derived.Deep.RegionHeld3
namespace Go.Proofs.Ytdbfkjhdnbmpeaa.St
set_option linter.unusedSimpArgs false
set_option linter.unusedVariables false
open Go Go.RowKit Go.Proofs.Ytdbfkjhdnbmpeaa Go.Proofs.Ytdbfkjhdnbmpeaa.Mm Go.Proofs.Ytdbfkjhdnbmpeaa.Wr

/-- A slice's words. -/
structure Sd where
  A : Option Addr
  n : Nat
  c : Nat
abbrev es (d : Sd) : Value := .slice d.A d.n d.c
theorem es_inj (x y : Sd) (h : es x = es y) : x = y := by
  injection h with h1 h2 h3
  cases x; cases y; simp_all

/-- A slice's cells lie at the head of one of the blocks G. -/
def Hold (A : Option Addr) (xs : List Value) (G : List Ent) : Prop := xs = [] ∨ ∃ e : Ent, e ∈ G ∧ A = some ⟨e.b, 0, none⟩ ∧ ∀ (j : Nat) (u : Value), xs[j]? = some u → e.c[j]? = some u
theorem Hold.mono {A : Option Addr} {xs : List Value} {G G' : List Ent} (h : Hold A xs G) (hs : ∀ e ∈ G, e ∈ G') : Hold A xs G' := by
  rcases h with h | ⟨e, he, h⟩
  · exact .inl h
  · exact .inr ⟨e, hs e he, h⟩
theorem Hold.split {A : Option Addr} {xs : List Value} {G1 G2 : List Ent} (h : Hold A xs (G1 ++ G2)) : Hold A xs G1 ∨ Hold A xs G2 := by
  rcases h with h | ⟨e, he, h⟩
  · exact .inl (.inl h)
  · exact (List.mem_append.1 he).imp (fun he => .inr ⟨e, he, h⟩) (fun he => .inr ⟨e, he, h⟩)
/-- What an append keeps. -/
theorem Hold.step {A : Option Addr} {xs : List Value} {G K G' K' : List Ent} (h : Hold A xs (G ++ K)) (hk : Hold A xs G → Hold A xs (G' ++ K')) : Hold A xs (G' ++ (K' ++ K)) := by
  rcases h.split with h | h
  · exact (hk h).mono fun e he => by
      rw [← List.append_assoc]; exact List.mem_append_left _ he
  · exact h.mono fun e he => by simp [he]
theorem Hold.cell {w0 w : World} {W N : List Ent} {A : Option Addr} {xs : List Value} {G : List Ent} {j : Nat} {u : Value} (h : Hold A xs G) (hs : St w0 w W N) (hm : ∀ e ∈ G, e ∈ N) (hj : xs[j]? = some u) : ∃ b, A = some ⟨b, 0, none⟩ ∧ w.cell? ⟨b, j, none⟩ = some u := by
  rcases h with rfl | ⟨e, he, hA, hc⟩
  · simp at hj
  · exact ⟨e.b, hA, (hs.new e (hm e he)).2.cell (hc j u hj)⟩
theorem Hold.rd {α : Type} {enc : α → Value} {w0 w : World} {W N : List Ent} {A : Option Addr} {l : List α} {G : List Ent} (h : Hold A (l.map enc) G) (hs : St w0 w W N) (hm : ∀ e ∈ G, e ∈ N) : RdV enc w A l := by
  intro h0
  rcases h with h | ⟨e, he, hA, hc⟩
  · rw [List.map_eq_nil_iff] at h; subst h; simp at h0
  · exact ⟨e.b, 0, hA, fun i x hx => by rw [Nat.zero_add]; exact (hs.new e (hm e he)).2.cell (hc i _ (by rw [List.getElem?_map, hx]; rfl))⟩
theorem Grow.hold {E : TypeId} {p : Value → Prop} {A : Option Addr} {n m c : Nat} {xs : List Value} {G : List Ent} (h : Grow E 1 p (.slice A m c) n xs G) : Hold A xs G := by
  rcases h.2 with ⟨B, e, h0, _⟩ | ⟨g, cap, cur, e, hnc, hcm, hcs, htake, hp, rfl⟩
  · exact .inl (List.eq_nil_of_length_eq_zero (by rw [h.1, h0]))
  · injection e with e1 e2 e3
    refine .inr ⟨_, List.mem_singleton.2 rfl, e1, fun j u hu => ?_⟩
    rw [← htake, List.getElem?_take] at hu
    split at hu
    · simpa using hu
    · cases hu
theorem Grow.weak {E : TypeId} {size n : Nat} {p q : Value → Prop} {v : Value} {xs : List Value} {G : List Ent} (hpq : ∀ u, p u → q u) (h : Grow E size p v n xs G) : Grow E size q v n xs G := by
  refine ⟨h.1, h.2.imp id fun ⟨g, cap, cur, h1, h2, h3, h4, h5, h6, h7⟩ => ⟨g, cap, cur, h1, h2, h3, h4, h5, fun u hu => hpq u (h6 u hu), h7⟩⟩
theorem GrowB.toV {v : Value} {l : List Nat} {G : List Ent} (h : GrowB v l G) : GrowV e8 5 v l G := Grow.weak (fun _ ⟨x, _, e⟩ => ⟨x, e⟩) h

section
variable {P : Program} {w0 w : World} {W N G : List Ent}
theorem run_append_keep (t ty e : TypeId) (i : TypeInfo) (z : Value) (bytes : Nat) (p : Value → Prop) (ht : P.underlying t = some (.slice e)) (hi : P.info? e = some i) (hz : i.zero = some z)
    (hsize : i.size = 1) (hby : i.bytes = bytes) (hzs : z.cells.size = 1) (hpz : ∀ u ∈ z.cells.toList, p u)
    (v : Value) (n : Nat) (xs : List Value) (h : St w0 w W (G ++ N)) (hg : Grow e 1 p v n xs G)
    (A : Option Addr) (m c : Nat) (news : List Value) (hl : news.length = m) (hnews : 0 < m → ∃ a, A = some a ∧ ∀ j u, news[j]? = some u → w.cell? (a.add j) = some u) (h1 : ∀ u ∈ news, u.oneCell' = true) (hp : ∀ u ∈ news, p u)
    (h63 : n + m ≤ maxLen) (hbytes : (n + m) * bytes ≤ 140737488355328) :
    ∃ v' w' G' K, (Builtin.append_ #[t, t] ty #[v, .slice A m c]).run P w = .ok v' w' ∧ St w0 w' W (G' ++ (K ++ N)) ∧ Grow e 1 p v' (n + m) (xs ++ news) G' ∧ ∀ A' xs', xs'.length ≤ xs.length → Hold A' xs' G → Hold A' xs' (G' ++ K) := by
  subst hby
  have hsmall : n + m ≤ 9223372036854775807 := by simp only [maxLen] at h63; omega
  have hgl : xs.length = n := by rw [hg.1, Nat.mul_one]
  have hlen : (xs ++ news).length = (n + m) * 1 := by rw [List.length_append, hgl, hl, Nat.mul_one]
  by_cases hm : m = 0
  · subst hm
    have hn : news = [] := List.eq_nil_of_length_eq_zero hl
    subst hn
    have hv : ∃ B n' cap, v = .slice B n' cap ∧ n' ≤ cap := by
      rcases hg.2 with ⟨B, rfl, _⟩ | ⟨g, cap, cur, rfl, hnc, _⟩
      · exact ⟨B, 0, 0, rfl, Nat.le_refl _⟩
      · exact ⟨_, _, _, rfl, hnc⟩
    obtain ⟨B, n', cap, rfl, hle⟩ := hv
    exact ⟨_, w, G, [], run_append_zero t ty e i ht hi B A n' cap c hle, h, by simpa using hg, fun A' xs' _ hh => by rw [List.append_nil]; exact hh⟩
  obtain ⟨a, rfl, hsrc⟩ := hnews (by omega)
  have fresh : ∀ (old : Nat), St w0 (w.drew.alloc (.cells (xs.toArray ++ news.toArray ++ Builtin.zeroCells z.cells (grownCap w (n + m) old e - (n + m))) e)) W
      (⟨w.heap.size, e, xs.toArray ++ news.toArray ++ Builtin.zeroCells z.cells (grownCap w (n + m) old e - (n + m))⟩ :: (G ++ N)) := fun old => h.drew.alloc _ _
  have grown : ∀ (old : Nat), (∀ u ∈ xs, p u) → Grow e 1 p (.slice (some ⟨w.heap.size, 0, none⟩) (n + m) (grownCap w (n + m) old e)) (n + m) (xs ++ news)
      [⟨w.heap.size, e, xs.toArray ++ news.toArray ++ Builtin.zeroCells z.cells (grownCap w (n + m) old e - (n + m))⟩] := by
    intro old hxp
    have hge := grownCap_ge w (n + m) old e
    have hcm : grownCap w (n + m) old e ≤ maxLen := grownCap_le_maxLen w (n + m) old e h63
    refine ⟨hlen, .inr ⟨_, _, _, rfl, hge, hcm, ?_, ?_, ?_, rfl⟩⟩
    · simp only [Array.size_append, List.size_toArray, size_zeroCells, hzs, hgl, hl]
      omega
    · simp only [Array.toList_append, List.append_assoc]
      rw [← List.append_assoc, ← hlen]
      exact List.take_left
    · intro u hu
      simp only [Array.toList_append, List.mem_append] at hu
      rcases hu with (hu | hu) | hu
      · exact hxp u hu
      · exact hp u hu
      · exact hpz u (zero_mem hu (by omega))
  rcases hg.2 with ⟨B, rfl, rfl, rfl⟩ | ⟨g, cap, cur, rfl, hnc, hcm, hcs, htake, hcp, rfl⟩
  · have hx : xs = [] := List.eq_nil_of_length_eq_zero hgl
    subst hx
    cases B with
    | some b =>
      have hr := run_append_grow (P := P) w t ty e i z ht hi hz b 0 0 [] (by simp) (by simp) a m c news (by rw [hsize, Nat.mul_one]; exact hl) hsrc (by omega) (by omega) (growslice_fits (by omega) hbytes)
      have h2 := fresh 0
      have h3 := grown 0 (by simp)
      exact ⟨_, _, _, [], hr, h2, h3, fun A' xs' hle _ => .inl (List.eq_nil_of_length_eq_zero (by simpa using hle))⟩
    | none =>
      have hr := run_append_nil (P := P) w t ty e i z ht hi hz a m c news (by rw [hsize, Nat.mul_one]; exact hl) hsrc (by omega) (by omega) (by have hb := hbytes; simp only [Nat.zero_add] at hb; omega)
      have h2 := fresh 0
      have h3 := grown 0 (by simp)
      simp only [Nat.zero_add, List.nil_append, Array.empty_append] at h2 h3 ⊢
      exact ⟨_, _, _, [], hr, h2, h3, fun A' xs' hle _ => .inl (List.eq_nil_of_length_eq_zero (by simpa using hle))⟩
  · have hb : Blk w g e cur := h.blk (List.mem_cons_self)
    rw [Nat.mul_one] at hcs htake
    by_cases hroom : n + m ≤ cap
    · have hfit : n * i.size + news.length ≤ cur.size := by rw [hl, hcs, hsize]; omega
      have hr := run_append_room (P := P) w t ty e i ht hi g n cap cur hb a m c news (by rw [hsize, Nat.mul_one]; exact hl) hsrc h1 hroom hfit
      refine ⟨_, _, [⟨g, e, _⟩], [], hr, h.setAll _, ⟨hlen, .inr ⟨g, cap, _, rfl, hroom, hcm, ?_, ?_, ?_, rfl⟩⟩, ?_⟩
      · simp only [List.size_toArray, List.length_append, List.length_take, List.length_drop, Array.length_toList, hsize]
        omega
      · simp only [hsize, Nat.mul_one]
        rw [htake]
        exact List.take_left' (by rw [hlen, Nat.mul_one])
      · intro u hu
        simp only [List.mem_append] at hu
        rcases hu with (hu | hu) | hu
        · exact hcp u (List.mem_of_mem_take hu)
        · exact hp u hu
        · exact hcp u (List.mem_of_mem_drop hu)
      · intro A' xs' hle hh
        rcases hh with hh | ⟨e1, he, hA, hc⟩
        · exact .inl hh
        · rw [List.mem_singleton] at he
          subst he
          refine .inr ⟨_, List.mem_append_left _ (List.mem_singleton.2 rfl), hA, fun j u hu => ?_⟩
          have hj : j < n := by
            rcases Nat.lt_or_ge j xs'.length with h1 | h1
            · omega
            · rw [List.getElem?_eq_none h1] at hu; cases hu
          have := hc j u hu
          rw [← Array.getElem?_toList] at this
          simp only [hsize, Nat.mul_one, List.getElem?_toArray]
          rw [List.append_assoc, List.getElem?_append_left (by rw [List.length_take, Array.length_toList]; omega), List.getElem?_take, if_pos hj]
          exact this
    · have holds : ∀ j u, xs[j]? = some u → w.cell? ((⟨g, 0, none⟩ : Addr).add j) = some u := by
        intro j u hu
        rw [add_none, Nat.zero_add]
        refine hb.cell ?_
        rw [← htake, List.getElem?_take] at hu
        split at hu
        · simpa using hu
        · cases hu
      have hr := run_append_grow (P := P) w t ty e i z ht hi hz ⟨g, 0, none⟩ n cap xs (by rw [hsize, Nat.mul_one]; exact hgl) holds a m c news (by rw [hsize, Nat.mul_one]; exact hl) hsrc (by omega) (by omega) (growslice_fits (by omega) hbytes)
      have h2 := fresh cap
      refine ⟨_, _, [_], [⟨g, e, cur⟩], hr, h2, grown cap ?_, fun A' xs' _ hh => hh.mono fun e he => by simp [he]⟩
      intro u hu
      rw [← htake] at hu
      exact hcp u (List.mem_of_mem_take hu)

variable {α : Type} {enc : α → Value} {E : TypeId} {ops : Array Oper} {rest : List Oper} {op : Oper} {a : Act} {Q : Exit → Act → World → Prop}
/-- append(s, x...), s a slice of the call's own: what lay there ahead stays. -/
theorem append_keep (hgd : op.guard = none) (s x : Operand) (T : TypeId)
    (ho : op.op = .call { callee := .builtin .append, args := #[s, x], argTypes := #[T, T] })
    (z : α) (bytes : Nat) (ht : P.underlying T = some (.slice E)) (hinfo : (P.info? E).map (fun i => (i.zero, i.size, i.bytes)) = some (some (enc z), 1, bytes)) (hz : (enc z).cells = #[enc z]) (h1 : ∀ x : α, (enc x).oneCell' = true)
    (v : Value) (l : List α) (hs : a.eval s = v) (h : St w0 w W (G ++ N)) (hg : GrowV enc E v l G)
    (A : Option Addr) (m c : Nat) (k : List α) (hx : a.eval x = .slice A m c) (hm : k.length = m) (hr : RdV enc w A k) (hb : (l.length + k.length) * bytes ≤ 140737488355328) (hb1 : l.length + k.length ≤ maxLen)
    (hK : ∀ v' w' G' K, St w0 w' W (G' ++ (K ++ N)) → GrowV enc E v' (l ++ k) G' → (∀ A' xs', xs'.length ≤ l.length → Hold A' xs' G → Hold A' xs' (G' ++ K)) → wpList P ops Q rest (a.put op.dst v') w') : wpList P ops Q (op :: rest) a w := by
  subst hm
  cases hi : P.info? E with
  | none => rw [hi] at hinfo; cases hinfo
  | some i =>
    rw [hi] at hinfo
    simp only [Option.map_some, Option.some.injEq, Prod.mk.injEq] at hinfo
    obtain ⟨hz', hsize, hby⟩ := hinfo
    obtain ⟨v', w', G', K, hrun, g1, g2, g3⟩ := run_append_keep (P := P) T op.type E i (enc z) bytes (fun u => ∃ x, u = enc x) ht hi hz' hsize hby (by rw [hz]; rfl) (fun u hu => by rw [hz] at hu; simp at hu; exact ⟨z, hu⟩) v l.length (l.map enc) h hg A k.length c (k.map enc) (by simp) (RdV.cells hr) (fun u hu => by obtain ⟨y, _, rfl⟩ := List.mem_map.1 hu; exact h1 y) (fun u hu => by obtain ⟨y, _, rfl⟩ := List.mem_map.1 hu; exact ⟨y, rfl⟩) hb1 hb
    refine wpList_plain hgd fun KK hKK => ?_
    unfold Oper.wp execOp
    simp only [ho, resolve, invoke, builtin, Sem.run_bind, Sem.run_pure, Result.andThen_ok, List.map_toArray, List.map_cons, List.map_nil, hs, hx, hrun]
    refine hKK _ _ (hK v' w' G' K g1 ?_ fun A' xs' hle hh => g3 A' xs' (by rw [List.length_map]; exact hle) hh)
    unfold GrowV
    rw [List.length_append, List.map_append]
    exact g2
end

theorem flatten_split {α : Type} : ∀ (Gs : List (List α)) (i : Nat) (G : List α), Gs[i]? = some G → ∃ p q, Gs.flatten = p ++ (G ++ q) ∧ ∀ G', (Gs.set i G').flatten = p ++ (G' ++ q)
  | [], _, _, h => by simp at h
  | G :: Gs, 0, _, h => by
    simp at h
    subst h
    exact ⟨[], Gs.flatten, by simp, fun G' => by simp⟩
  | G0 :: Gs, i + 1, G, h => by
    obtain ⟨p, q, h1, h2⟩ := flatten_split Gs i G (by simpa using h)
    exact ⟨G0 ++ p, q, by simp [h1], fun G' => by simp [h2]⟩

/-- A family of k groups of blocks: what is said of each. -/
def Fam (k : Nat) (Pd : Nat → List Ent → Prop) (Gs : List (List Ent)) : Prop := Gs.length = k ∧ ∀ i G, Gs[i]? = some G → Pd i G
theorem Fam.nil (Pd : Nat → List Ent → Prop) : Fam 0 Pd [] := ⟨rfl, fun i G h => by simp at h⟩
theorem Fam.imp {k : Nat} {Pd Pd' : Nat → List Ent → Prop} {Gs : List (List Ent)} (h : Fam k Pd Gs) (hp : ∀ i G, i < k → Pd i G → Pd' i G) : Fam k Pd' Gs :=
  ⟨h.1, fun i G hi => hp i G (by
    rcases Nat.lt_or_ge i Gs.length with h1 | h1
    · rw [← h.1]; exact h1
    · rw [List.getElem?_eq_none h1] at hi; cases hi) (h.2 i G hi)⟩
theorem Fam.snoc {k : Nat} {Pd : Nat → List Ent → Prop} {Gs : List (List Ent)} {G : List Ent} (h : Fam k Pd Gs) (hp : Pd k G) : Fam (k + 1) Pd (Gs ++ [G]) := by
  refine ⟨by simp [h.1], fun i G' hi => ?_⟩
  by_cases hlt : i < Gs.length
  · rw [List.getElem?_append_left hlt] at hi; exact h.2 i G' hi
  · have hl := h.1
    rw [List.getElem?_append_right (by omega)] at hi
    have hi0 : i - Gs.length = 0 := by
      rcases Nat.eq_zero_or_pos (i - Gs.length) with h0 | h0
      · exact h0
      · rw [List.getElem?_eq_none (by simp; omega)] at hi; cases hi
    rw [hi0] at hi
    simp at hi
    subst hi
    have : i = k := by omega
    rw [this]; exact hp
theorem Fam.get {k i : Nat} {Pd : Nat → List Ent → Prop} {Gs : List (List Ent)} (h : Fam k Pd Gs) (hi : i < k) : ∃ G, Gs[i]? = some G ∧ Pd i G ∧ ∀ e ∈ G, e ∈ Gs.flatten := by
  have hlt : i < Gs.length := by rw [h.1]; exact hi
  refine ⟨Gs[i], by simp [hlt], h.2 i _ (by simp [hlt]), fun e he => List.mem_flatten.2 ⟨_, List.getElem_mem hlt, he⟩⟩
/-- One group at hand: what becomes of it becomes of the family. -/
theorem Fam.focus {k i : Nat} {Pd : Nat → List Ent → Prop} {Gs : List (List Ent)} {w0 w : World} {W N : List Ent} (h : Fam k Pd Gs) (hs : St w0 w W (Gs.flatten ++ N)) (hi : i < k) :
    ∃ G R, Pd i G ∧ St w0 w W (G ++ (R ++ N)) ∧ ∀ w' G' N' (Pd' : Nat → List Ent → Prop), St w0 w' W (G' ++ (R ++ N')) → Pd' i G' → (∀ j G, j ≠ i → j < k → Pd j G → Pd' j G) → ∃ Gs', Fam k Pd' Gs' ∧ St w0 w' W (Gs'.flatten ++ N') := by
  obtain ⟨G, hG, hP, _⟩ := h.get hi
  obtain ⟨p, q, h1, h2⟩ := flatten_split Gs i G hG
  have perm : ∀ G N : List Ent, (p ++ (G ++ q) ++ N).Perm (G ++ ((p ++ q) ++ N)) := fun G N => by
    rw [List.append_assoc, List.append_assoc, List.append_assoc]
    rw [← List.append_assoc p G, ← List.append_assoc G p]
    exact (List.perm_append_comm).append_right _
  refine ⟨G, p ++ q, hP, by rw [h1] at hs; exact hs.perm (perm G N), fun w' G' N' Pd' hs' hP' hk => ⟨Gs.set i G', ⟨by simp [h.1], fun j Gj hj => ?_⟩, by rw [h2]; exact hs'.perm (perm G' N').symm⟩⟩
  by_cases e : i = j
  · subst e
    rw [List.getElem?_set_self (by rw [h.1]; exact hi)] at hj
    injection hj with hj
    subst hj
    exact hP'
  · rw [List.getElem?_set_ne e] at hj
    refine hk j Gj (fun h => e h.symm) ?_ (h.2 j Gj hj)
    rcases Nat.lt_or_ge j Gs.length with h3 | h3
    · rw [← h.1]; exact h3
    · rw [List.getElem?_eq_none h3] at hj; cases hj

/-- One place of a list of the call's own. -/
theorem GrowV.at {α : Type} {enc : α → Value} {E : TypeId} {d : Sd} {l : List α} {G N W : List Ent} {w0 w : World} {j : Nat} (h : GrowV enc E (es d) l G) (hs : St w0 w W (G ++ N)) (hj : j < l.length) :
    ∃ b, d.A = Option.some ⟨b, 0, none⟩ ∧ w.frozen? ⟨b, j, none⟩ = false ∧ (∃ x, l[j]? = Option.some x ∧ w.cell? ⟨b, j, none⟩ = Option.some (enc x)) ∧ ∀ y, ∃ G', GrowV enc E (es d) (l.set j y) G' ∧ St w0 (w.setCell ⟨b, j, none⟩ (enc y)) W (G' ++ N) := by
  rcases h.2 with ⟨B, _, h0, _⟩ | ⟨g, cap, cur, e, hnc, hcm, hcs, htake, hp, rfl⟩
  · omega
  · injection e with e1 e2 e3
    rw [Nat.mul_one] at hcs htake
    have hb := hs.blk (List.mem_cons_self)
    have hcur : cur[j]? = Option.some (enc l[j]) := by
      have : (cur.toList.take l.length)[j]? = Option.some (enc l[j]) := by rw [htake]; simp [hj]
      rw [List.getElem?_take, if_pos hj] at this
      simpa using this
    refine ⟨g, e1, hb.free, ⟨l[j], by simp [hj], hb.cell hcur⟩, fun y => ⟨[⟨g, E, cur.setIfInBounds j (enc y)⟩], ⟨by simp, .inr ⟨g, cap, _, by simp only [es, List.length_set]; rw [e1, e2, e3], by rw [List.length_set]; exact hnc, hcm, by simp [hcs], ?_, fun u hu => ?_, rfl⟩⟩, hs.setN (N1 := []) _ _⟩⟩
    · rw [Nat.mul_one, List.length_set, Array.toList_setIfInBounds, List.take_set, htake, List.map_set]
    · rw [Array.toList_setIfInBounds] at hu
      rcases List.mem_or_eq_of_mem_set hu with hu | rfl
      · exact hp u hu
      · exact ⟨y, rfl⟩
theorem GrowV.len {α : Type} {enc : α → Value} {E : TypeId} {d : Sd} {l : List α} {G : List Ent} (h : GrowV enc E (es d) l G) : d.n = l.length := by
  obtain ⟨A, c, e⟩ := h.shape
  injection e

/-- The group of list k: what it holds. -/
def Own {α : Type} (enc : α → Value) (E : TypeId) (ds : List Sd) (n : Nat → List α → Prop) (k : Nat) (G : List Ent) : Prop := ∃ d l, ds[k]? = some d ∧ n k l ∧ GrowV enc E (es d) l G
/-- .. and that of a list with another that grew from it. -/
def Pair2 {α : Type} (enc : α → Value) (ds ts : List Sd) (n : Nat → List α → List α → Prop) (k : Nat) (G : List Ent) : Prop :=
  ∃ d t l m, ds[k]? = some d ∧ ts[k]? = some t ∧ n k l m ∧ d.n = l.length ∧ t.n = m.length ∧ Hold d.A (l.map enc) G ∧ Hold t.A (m.map enc) G
theorem Fam.append {k : Nat} {Pd : Nat → List Ent → Prop} {Gs Xs : List (List Ent)} (h : Fam k Pd Gs) (hp : ∀ j G, Xs[j]? = some G → Pd (k + j) G) : Fam (k + Xs.length) Pd (Gs ++ Xs) := by
  refine ⟨by simp [h.1], fun i G' hi => ?_⟩
  have hl := h.1
  by_cases hlt : i < Gs.length
  · rw [List.getElem?_append_left hlt] at hi; exact h.2 i G' hi
  · rw [List.getElem?_append_right (by omega)] at hi
    have := hp _ _ hi
    rw [hl, show k + (i - k) = i by omega] at this
    exact this
theorem push_perm (Xs Gs : List (List Ent)) (B : List Ent) : (Xs.reverse.flatten ++ (Gs.flatten ++ B)).Perm ((Gs ++ Xs).flatten ++ B) := by
  rw [List.flatten_append, ← List.append_assoc]
  refine List.Perm.append_right _ ?_
  exact ((List.reverse_perm Xs).flatten.append_right _).trans List.perm_append_comm
theorem front_perm (X G R : List Ent) : (X ++ (G ++ R)).Perm (G ++ (X ++ R)) := List.perm_append_comm_assoc _ _ _
theorem get_app {α : Type} {ds X : List α} {n j : Nat} (h : ds.length = n) : (ds ++ X)[n + j]? = X[j]? := by
  subst h; rw [List.getElem?_append_right (Nat.le_add_right _ _)]; congr 1; omega
theorem get_ds {ds : List Sd} {k i : Nat} (h : ds.length = k) (hi : i < k) : ∃ d, ds[i]? = some d := ⟨ds[i]'(by omega), by simp⟩

section
variable {P : Program} {w0 w : World} {W N G : List Ent} {α : Type} {enc : α → Value} {E : TypeId} {ops : Array Oper} {op : Oper} {a : Act} {Q : Exit → Act → World → Prop} {KK : Act → World → Prop} {EE : Prop}
/-- append as a step of a region that draws its order. -/
theorem step_append_v (hgd : op.guard = none) (s x : Operand) (T : TypeId)
    (ho : op.op = .call { callee := .builtin .append, args := #[s, x], argTypes := #[T, T] })
    (z : α) (bytes : Nat) (ht : P.underlying T = some (.slice E)) (hinfo : (P.info? E).map (fun i => (i.zero, i.size, i.bytes)) = some (some (enc z), 1, bytes)) (hz : (enc z).cells = #[enc z]) (h1 : ∀ x : α, (enc x).oneCell' = true)
    (v : Value) (l : List α) (hs : a.eval s = v) (h : St w0 w W (G ++ N)) (hg : GrowV enc E v l G)
    (A : Option Addr) (m c : Nat) (k : List α) (hx : a.eval x = .slice A m c) (hm : k.length = m) (hr : RdV enc w A k) (hb : (l.length + k.length) * bytes ≤ 140737488355328) (hb1 : l.length + k.length ≤ maxLen)
    (hK : ∀ v' w' G', St w0 w' W (G' ++ N) → GrowV enc E v' (l ++ k) G' → KK (a.put op.dst v') w') :
    if Region.wanted op (yielded ops a.tmps) = true then Oper.wp P op a w KK Q else EE := by
  subst hm
  have hw : Region.wanted op (yielded ops a.tmps) = true := by simp [Region.wanted, hgd]
  rw [if_pos hw]
  cases hi : P.info? E with
  | none => rw [hi] at hinfo; cases hinfo
  | some i =>
    rw [hi] at hinfo
    simp only [Option.map_some, Option.some.injEq, Prod.mk.injEq] at hinfo
    obtain ⟨hz', hsize, hby⟩ := hinfo
    obtain ⟨v', w', G', hrun, g1, g2, _⟩ := run_append_st (P := P) T op.type E i (enc z) 1 bytes (fun u => ∃ x, u = enc x) ht hi hz' hsize hby (by rw [hz]; rfl) (by decide) (fun u hu => by rw [hz] at hu; simp at hu; exact ⟨z, hu⟩) v l.length (l.map enc) h hg A k.length c (k.map enc) (by simp) (RdV.cells hr) (fun u hu => by obtain ⟨y, _, rfl⟩ := List.mem_map.1 hu; exact h1 y) (fun u hu => by obtain ⟨y, _, rfl⟩ := List.mem_map.1 hu; exact ⟨y, rfl⟩) hb1 hb
    unfold Oper.wp execOp
    simp only [ho, resolve, invoke, builtin, Sem.run_bind, Sem.run_pure, Result.andThen_ok, List.map_toArray, List.map_cons, List.map_nil, hs, hx, hrun]
    refine hK v' w' G' g1 ?_
    unfold GrowV
    rw [List.length_append, List.map_append]
    exact g2
end
theorem St.rdN {w0 w : World} {W N : List Ent} {b : Nat} {l : List Nat} (h : St w0 w W N) (hm : bt b l ∈ N) : Rd w (some ⟨b, 0, none⟩) l := h.rd hm

section
variable {P : Program} {ops : Array Oper} {Q : Exit → Act → World → Prop} {md : Region.Mode} {S S' : World → Prop}
/-- What holds of the world in a region's walk may become more. -/
theorem held_imp (hS : ∀ w, S' w → S w) : ∀ (fuel : Nat) (listed : Array Bool) (a : Act) (w : World), wpAnyH P md ops Q S' fuel listed a w → wpAnyH P md ops Q S fuel listed a w
  | 0, _, _, _, h => h
  | fuel + 1, _, _, _, h => ⟨h.1, fun i hi => wpOp_mono (fun a' w' h' => ⟨hS _ h'.1, held_imp hS fuel _ a' w' h'.2⟩) (h.2 i hi)⟩
theorem held_more {fuel : Nat} {listed : Array Bool} {a : Act} {w : World} (S' : World → Prop) (hS : ∀ w, S' w → S w) (hw : S' w) (h : S' w → wpAnyH P md ops Q S' fuel listed a w) : wpAnyH P md ops Q S fuel listed a w := held_imp hS _ _ _ _ (h hw)
/-- Just one operation may come up: it goes by its run. -/
theorem held_one {i : Nat} {o : Oper} {v : Value} {fuel : Nat} {listed : Array Bool} {a : Act} {w w1 : World} (hr : Region.ready md ops listed = [i]) (ho : ops[i]? = some o) (hg : o.guard = none)
    (hrun : (execOp a.eval o).run P w = .ok (.value v) w1) (hS : S w1) (h : S w1 → wpAnyH P md ops Q S fuel (listed.setIfInBounds i true) (a.put o.dst v) w1) : wpAnyH P md ops Q S (fuel + 1) listed a w := by
  refine ⟨fun h0 => (by rw [hr] at h0; cases h0), fun j hj => ?_⟩
  rw [hr] at hj
  obtain rfl : j = i := by simpa using hj
  unfold wpOp
  rw [ho]
  show if Region.wanted o _ = true then _ else _
  rw [if_pos (by simp [Region.wanted, hg])]
  refine .inl ?_
  unfold Oper.wp
  rw [hrun]
  exact ⟨hS, h hS⟩
end

theorem take_l {P : Program} {l rest : List Oper} {Q : Exit → Act → World → Prop} {md : Region.Mode} {S : World → Prop} (i : Nat) {oi : Oper} {v : Value} {fuel : Nat} {listed : Array Bool} {a : Act} {w : World} (hd : l.drop i = oi :: rest)
    (hs : Region.noSelect l.toArray = true) (hf : Region.free md l.toArray listed i = true) (hr : (Region.ready md l.toArray listed).contains i = true)
    (hQ : ∀ c a w, Q (.panic c) (a.put oi.dst v) w → Q (.panic c) a w) (hw : Region.wanted oi (yielded l.toArray a.tmps) = true) (hS : S w) (hy : ∀ w, S w → (execOp a.eval oi).run P w = .ok (.value v) w)
    (h : wpAnyH P md l.toArray Q S fuel (listed.setIfInBounds i true) (a.put oi.dst v) w) : wpAnyH P md l.toArray Q S (fuel + 1) listed a w :=
  wpAnyH_take (i := i) (oi := oi) (v := v) (by
    have h1 : (l.drop i)[0]? = some oi := by rw [hd]; rfl
    rw [List.getElem?_drop, Nat.add_zero] at h1
    simpa using h1) hs hf hr hQ (.inl ⟨hw, hy⟩) hS h

theorem op_of_drop {l rest : List Oper} {i : Nat} {oi : Oper} (hd : l.drop i = oi :: rest) : l.toArray[i]? = some oi := by
  have h1 : (l.drop i)[0]? = some oi := by rw [hd]; rfl
  rw [List.getElem?_drop, Nat.add_zero] at h1
  simpa using h1
/-- Two operations that only read may come up, in either order. -/
theorem held_pair {P : Program} {l ri rj : List Oper} {Q : Exit → Act → World → Prop} {md : Region.Mode} {S : World → Prop} (i j : Nat) {oi oj : Oper} {vi vj : Value} {fuel : Nat} {listed : Array Bool} {a : Act} {w : World} (hdi : l.drop i = oi :: ri) (hdj : l.drop j = oj :: rj)
    (hr : Region.ready md l.toArray listed = [i, j]) (hri : Region.ready md l.toArray (listed.setIfInBounds i true) = [j]) (hrj : Region.ready md l.toArray (listed.setIfInBounds j true) = [i]) (gi : oi.guard = none) (gj : oj.guard = none) (hij : i ≠ j) (hne : ∀ d, oi.dst = some d → oj.dst ≠ some d) (hS : S w)
    (r1 : (execOp a.eval oi).run P w = .ok (.value vi) w) (r2 : (execOp (a.put oi.dst vi).eval oj).run P w = .ok (.value vj) w) (r3 : (execOp a.eval oj).run P w = .ok (.value vj) w) (r4 : (execOp (a.put oj.dst vj).eval oi).run P w = .ok (.value vi) w)
    (h : wpAnyH P md l.toArray Q S fuel ((listed.setIfInBounds i true).setIfInBounds j true) ((a.put oi.dst vi).put oj.dst vj) w) : wpAnyH P md l.toArray Q S (fuel + 2) listed a w := by
  refine ⟨fun h0 => (by rw [hr] at h0; cases h0), fun k hk => ?_⟩
  rw [hr] at hk
  have hk' : k = i ∨ k = j := by simpa using hk
  rcases hk' with rfl | rfl
  · unfold wpOp
    rw [op_of_drop hdi]
    show if Region.wanted oi _ = true then _ else _
    rw [if_pos (by simp [Region.wanted, gi])]
    refine .inl ?_
    unfold Oper.wp
    rw [r1]
    exact ⟨hS, held_one hri (op_of_drop hdj) gj r2 hS fun _ => h⟩
  · unfold wpOp
    rw [op_of_drop hdj]
    show if Region.wanted oj _ = true then _ else _
    rw [if_pos (by simp [Region.wanted, gj])]
    refine .inl ?_
    unfold Oper.wp
    rw [r3]
    refine ⟨hS, held_one hrj (op_of_drop hdi) gi r4 hS fun _ => ?_⟩
    rw [Array.setIfInBounds_comm _ _ (fun e => hij e.symm), ← Act.put_comm a vi vj hne]
    exact h

end Go.Proofs.Ytdbfkjhdnbmpeaa.St
