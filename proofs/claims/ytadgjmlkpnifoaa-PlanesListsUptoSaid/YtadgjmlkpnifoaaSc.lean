/- Words on memory: where a source and a target may lie. No program in sight. -/
import Derived.Test.YtadgjmlkpnifoaaSt
namespace Go.Proofs.Ytadgjmlkpnifoaa.St
set_option linter.unusedSimpArgs false
set_option linter.unusedVariables false
open Go Go.RowKit Go.Proofs.Ytadgjmlkpnifoaa Go.Proofs.Ytadgjmlkpnifoaa.Mm Go.Proofs.Ytadgjmlkpnifoaa.Wr

/-- The source is the target's own piece, or a list in another block. -/
def Src (w : World) (bd od bs os : Nat) (D l : List Nat) : Prop :=
  bs = bd ∧ os = od ∧ (∀ k, k < l.length → D.getD (od + k) 0 = l.getD k 0) ∨ bs ≠ bd ∧ ∀ k, k < l.length → w.cell? ⟨bs, os + k, none⟩ = some (.int .u8 ((l.getD k 0 : Nat) : Int))
/-- The list l reads at A; A is the target's own piece, or lies in another block, or l is empty. -/
def Srcs (w : World) (bd od : Nat) (A : Option Addr) (D l : List Nat) : Prop := 0 < l.length → ∃ bs os, A = some ⟨bs, os, none⟩ ∧ Src w bd od bs os D l
theorem wr_above {vs D : List Nat} {o i : Nat} (h : o + vs.length ≤ D.length) (hi : o + vs.length ≤ i) : (Wr.wr D o vs).getD i 0 = D.getD i 0 := by
  rw [List.getD_eq_getElem?_getD, wr_get _ _ _ _ h, if_neg (by omega), ← List.getD_eq_getElem?_getD]
/-- One byte of the source, while the target is being written from its head on. -/
theorem Src.cell {w w' : World} {bd od bs os i k : Nat} {D l vs : List Nat} (h : Src w bd od bs os D l) (hb : But bd w w') (hd : Bytes w' bd (Wr.wr D od (vs.take i))) (ho : od + l.length ≤ D.length) (hv : vs.length = l.length) (hik : i ≤ k) (hk : k < l.length) :
    w'.cell? ⟨bs, os + k, none⟩ = some (.int .u8 ((l.getD k 0 : Nat) : Int)) := by
  rcases h with ⟨rfl, rfl, h3⟩ | ⟨h1, h2⟩
  · rw [hd.cellRow (i := os + k) (by rw [wr_length]; omega), wr_above (by rw [List.length_take]; omega) (by rw [List.length_take]; omega), h3 k hk]
  · rw [hb.cell (p := ⟨bs, os + k, none⟩) (cell_lt (h2 k hk)) h1]; exact h2 k hk
theorem Srcs.other {w : World} {bd od : Nat} {A : Option Addr} {D l : List Nat} (hr : Rd w A l) (hne : ∀ a, A = some a → a.block ≠ bd) : Srcs w bd od A D l := by
  intro h0
  obtain ⟨bs, os, rfl, hc⟩ := hr h0
  exact ⟨bs, os, rfl, .inr ⟨hne _ rfl, hc⟩⟩
theorem Srcs.own {w : World} {bd od : Nat} {D l : List Nat} (h : ∀ k, k < l.length → D.getD (od + k) 0 = l.getD k 0) : Srcs w bd od (some ⟨bd, od, none⟩) D l :=
  fun _ => ⟨bd, od, rfl, .inl ⟨rfl, rfl, h⟩⟩
theorem Srcs.ext {w0 w : World} {N : List Ent} {bd od : Nat} {t : TypeId} {A : Option Addr} {X : Array Value} {D l : List Nat} (h : St w0 w [] N) (m : (⟨bd, t, X⟩ : Ent) ∈ N) (r : Rd w0 A l) : Srcs w bd od A D l := by
  intro h0
  obtain ⟨bs, os, rfl, hc⟩ := r h0
  have h1 := cell_lt (hc 0 h0)
  have h2 := h.ge m
  obtain ⟨bs', os', e, hc'⟩ := (h.ext (fun _ => ⟨bs, os, rfl, hc⟩ : Rd w0 (some ⟨bs, os, none⟩) l)) h0
  injection e with e; injection e with e1 e2 _; subst e1 e2
  exact ⟨bs, os, rfl, .inr ⟨by simp at h1; omega, hc'⟩⟩
theorem Srcs.new {w : World} {bd od b o : Nat} {D l : List Nat} (r : Rd w (some ⟨b, o, none⟩) l) (hne : b ≠ bd) : Srcs w bd od (some ⟨b, o, none⟩) D l :=
  Srcs.other r (fun a h => by injection h with h; rw [← h]; exact hne)
theorem Srcs.self {w : World} {bd : Nat} {D : List Nat} : Srcs w bd 0 (some ⟨bd, 0, none⟩) D D := Srcs.own (fun k _ => by rw [Nat.zero_add])
theorem Srcs.selfN {w : World} {bd n : Nat} {D : List Nat} (hn : D.length = n) : Srcs w bd 0 (some ⟨bd, 0, none⟩) D D := Srcs.self

end Go.Proofs.Ytadgjmlkpnifoaa.St
