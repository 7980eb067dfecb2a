/- Words on memory: lists of lists of bytes: how they read, and those of the call's own, which grow by append. -/
import Derived.Test.YthfenafhdigniaaGr
import Derived.Test.YthfenafhdigniaaKk
namespace Go.Proofs.Ythfenafhdigniaa.St
set_option linter.unusedSimpArgs false
set_option linter.unusedVariables false
open Go Go.RowKit Go.Proofs.Ythfenafhdigniaa Go.Proofs.Ythfenafhdigniaa.Mm Go.Proofs.Ythfenafhdigniaa.Wr

/-- A list of lists behind an address. -/
def RdL (w : World) (A : Option Addr) (ls : List (List Nat)) : Prop :=
  ∀ i, i < ls.length → ∃ b o A' c', A = some ⟨b, o, none⟩ ∧ w.cell? ⟨b, o + i, none⟩ = some (.slice A' (ls.getD i []).length c') ∧ Rd w A' (ls.getD i [])
theorem RdL.nil (w : World) (A : Option Addr) : RdL w A [] := fun i h => by simp at h
theorem St.extL {w0 w : World} {N : List Ent} {A : Option Addr} {ls : List (List Nat)} (h : St w0 w [] N) (r : RdL w0 A ls) : RdL w A ls := by
  intro i hi
  obtain ⟨b, o, A', c', hA, hc, hr⟩ := r i hi
  exact ⟨b, o, A', c', hA, by rw [h.below.cell (p := ⟨b, o + i, none⟩) (cell_lt hc)]; exact hc, h.ext hr⟩
theorem RdL.drewN {w : World} {A : Option Addr} {ls : List (List Nat)} (n : Nat) (h : RdL w A ls) : RdL (w.drewN n) A ls := h

/-- All lists are lists of bytes, none longer than the reach. -/
def LB (ls : List (List Nat)) : Prop := ∀ i, i < ls.length → B8 (ls.getD i []) ∧ (ls.getD i []).length ≤ 140737488351232

abbrev kSl : Kk.K (List Nat) := Kk.kSlice Kk.kByte 1
/-- A slice of bytes among the arguments. -/
theorem sl_ok {B : Nat} {w : World} {cs : List Value} {l : List Nat} (h : kSl.ok B w cs l) : ∃ A c, cs = [.slice A l.length c] ∧ l.length ≤ c ∧ l.length ≤ 140737488351232 ∧ Rd w A l ∧ B8 l := by
  obtain ⟨A, c, he, hlc, _, hr, hrow⟩ := h
  refine ⟨A, c, he, hlc, by unfold reachBytes at hr; omega, fun h0 => ?_, fun x hx => ?_⟩
  · obtain ⟨b, off, hA, _, hc⟩ := hrow h0
    refine ⟨b, off, hA, fun i hi => ?_⟩
    obtain ⟨cs, ⟨rfl, _⟩, hcell⟩ := hc i hi
    have := hcell 0 _ rfl
    have e : l.getD i 0 = l[i] := by simp [hi]
    rw [e]
    simpa [Kk.kByte] using this
  · obtain ⟨i, hi, rfl⟩ := List.getElem_of_mem hx
    obtain ⟨b, off, hA, _, hc⟩ := hrow (by omega)
    obtain ⟨cs, ⟨_, hok⟩, _⟩ := hc i hi
    exact hok
/-- A slice of slices of bytes among the arguments, opened. -/
theorem open_lists {B : Nat} {w : World} {A : Option Addr} {n c : Nat} {ls : List (List Nat)} (h : (Kk.kSlice kSl 24).ok B w [.slice A n c] ls) : ls.length = n ∧ n * 24 ≤ 140737488351232 ∧ n ≤ c ∧ RdL w A ls ∧ LB ls := by
  obtain ⟨A', c', he, hlc, _, hr, hrow⟩ := h
  injection he with he _
  injection he with e1 e2 e3
  subst e1 e2 e3
  refine ⟨rfl, by unfold reachBytes at hr; omega, hlc, fun i hi => ?_, fun i hi => ?_⟩
  · obtain ⟨b, off, hA, _, hc⟩ := hrow (by omega)
    obtain ⟨cs, hok, hcell⟩ := hc i hi
    obtain ⟨A2, c2, rfl, _, _, hr2, _⟩ := sl_ok hok
    have := hcell 0 _ rfl
    have e : ls.getD i [] = ls[i] := by simp [hi]
    rw [e]
    exact ⟨b, off, A2, c2, hA, by simpa [Kk.kSlice] using this, hr2⟩
  · obtain ⟨b, off, hA, _, hc⟩ := hrow (by omega)
    obtain ⟨cs, hok, hcell⟩ := hc i hi
    obtain ⟨A2, c2, rfl, _, hl, _, h8⟩ := sl_ok hok
    have e : ls.getD i [] = ls[i] := by simp [hi]
    rw [e]
    exact ⟨h8, hl⟩

/-- A list of lists of the call's own: Gt its block, Gs those of its lists. -/
def LL (v : Value) (ls : List (List Nat)) (Gt : List Ent) (Gs : List (List Ent)) : Prop :=
  ∃ vs : List Value, Grow 22 1 (fun _ => True) v ls.length vs Gt ∧ Gs.length = ls.length ∧ ∀ i, i < ls.length → GrowB (vs.getD i undef) (ls.getD i []) (Gs.getD i [])
theorem LL.nil : LL (.slice none 0 0) [] [] [] := ⟨[], Grow.nil _ _ _, rfl, fun i h => by simp at h⟩
theorem LL.shape {v : Value} {ls : List (List Nat)} {Gt : List Ent} {Gs : List (List Ent)} (h : LL v ls Gt Gs) : ∃ A c, v = .slice A ls.length c := by
  obtain ⟨vs, hg, _⟩ := h
  rcases hg.2 with ⟨B, rfl, h0, _⟩ | ⟨g, cap, cur, rfl, _⟩
  · rw [h0]; exact ⟨B, 0, rfl⟩
  · exact ⟨_, _, rfl⟩
theorem LL.read {A : Option Addr} {n c : Nat} {ls : List (List Nat)} {Gt N W : List Ent} {Gs : List (List Ent)} {w0 w : World} (h : LL (.slice A n c) ls Gt Gs) (hs : St w0 w W N) (ht : ∀ e ∈ Gt, e ∈ N) (hg : ∀ e ∈ Gs.flatten, e ∈ N) : RdL w A ls := by
  obtain ⟨vs, hgr, hgl, hel⟩ := h
  intro i hi
  rcases hgr.2 with ⟨B, _, h0, _⟩ | ⟨g, cap, cur, e, hnc, hcm, hcs, htake, _, rfl⟩
  · omega
  · injection e with e1 e2 e3
    subst e1
    have hb := hs.blk (ht _ (List.mem_singleton.2 rfl))
    have hvl : vs.length = ls.length := by rw [hgr.1, Nat.mul_one]
    have hv := hel i hi
    obtain ⟨A', c', ev⟩ := hv.shape
    have hcell : w.cell? ⟨g, 0 + i, none⟩ = some (.slice A' (ls.getD i []).length c') := by
      rw [Nat.zero_add, ← ev]
      refine hb.cell ?_
      have hc : (cur.toList.take (ls.length * 1))[i]? = vs[i]? := by rw [htake]
      rw [List.getElem?_take, if_pos (by omega)] at hc
      rw [← Array.getElem?_toList, hc]
      simp [show i < vs.length by omega]
    refine ⟨g, 0, A', c', rfl, hcell, ?_⟩
    rw [ev] at hv
    refine hv.read hs fun e he => hg e (List.mem_flatten.2 ⟨_, ?_, he⟩)
    have hGi : i < Gs.length := by omega
    have : Gs.getD i [] = Gs[i] := by simp [hGi]
    rw [this]
    exact List.getElem_mem hGi

section
variable {w0 w : World} {W N Gt : List Ent} {ops : Array Oper} {rest : List Oper} {o : Oper} {a : Act} {Q : Exit → Act → World → Prop}
theorem info_sl : (Try.prog.info? 22).map (fun i => (i.zero, i.size, i.bytes)) = some (some (.slice none 0 0), 1, 24) := by kernel_rfl
/-- append of one list. -/
theorem append_list (hgd : o.guard = none) (s x : Operand)
    (ho : o.op = .call { callee := .builtin .append, args := #[s, x], argTypes := #[38, 38] })
    (v : Value) (ls : List (List Nat)) (Gs : List (List Ent)) (hs : a.eval s = v) (h : St w0 w W (Gt ++ N)) (hl : LL v ls Gt Gs)
    (A : Option Addr) (c : Nat) (u : Value) (l : List Nat) (G : List Ent) (hx : a.eval x = .slice A 1 c) (hc : ∃ ad, A = some ad ∧ w.cell? (ad.add 0) = some u) (hu : GrowB u l G) (hb : (ls.length + 1) * 24 ≤ 140737488355328)
    (hK : ∀ v' w' Gt', St w0 w' W (Gt' ++ N) → LL v' (ls ++ [l]) Gt' (Gs ++ [G]) → wpList Try.prog ops Q rest (a.put o.dst v') w') : wpList Try.prog ops Q (o :: rest) a w := by
  obtain ⟨vs, hg, hgl, hel⟩ := hl
  obtain ⟨A', c', eu⟩ := hu.shape
  refine wpList_append_st (P := Try.prog) hgd s x 38 ho 22 (.slice none 0 0) 1 24 (fun _ => True) Try.underlying38 info_sl rfl (by decide) (fun _ _ => trivial) v ls.length vs hs h hg A 1 c [u] hx (by simp) (fun _ => ?_) (fun z hz => ?_) (fun _ _ => trivial) (by unfold maxLen; omega) (by omega) fun v' w' G' h1 h2 _ => ?_
  · obtain ⟨ad, hA, hcu⟩ := hc
    refine ⟨ad, hA, fun j z hz => ?_⟩
    have hj : j = 0 := by
      rcases Nat.eq_zero_or_pos j with h | h
      · exact h
      · rw [List.getElem?_eq_none (by simp; omega)] at hz; cases hz
    subst hj
    simp at hz
    rw [← hz]; exact hcu
  · rw [List.mem_singleton] at hz
    subst hz
    rw [eu]; rfl
  · have hvl : vs.length = ls.length := by rw [hg.1, Nat.mul_one]
    refine hK v' w' G' h1 ⟨vs ++ [u], by rw [List.length_append]; exact h2, by simp [hgl], fun i hi => ?_⟩
    rw [List.length_append, List.length_singleton] at hi
    by_cases hlt : i < ls.length
    · have := hel i hlt
      simp only [List.getD_eq_getElem?_getD] at this ⊢
      rw [List.getElem?_append_left (by omega), List.getElem?_append_left hlt, List.getElem?_append_left (by omega)]
      exact this
    · obtain rfl : i = ls.length := by omega
      simp only [List.getD_eq_getElem?_getD]
      rw [List.getElem?_append_right (by omega), List.getElem?_append_right (Nat.le_refl _), List.getElem?_append_right (by omega), hvl, hgl]
      simpa using hu
end

end Go.Proofs.Ythfenafhdigniaa.St
