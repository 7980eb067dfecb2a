/- Words on memory for the walks: a world against the one it came from: which old blocks were written, which are new, what they hold. No program in sight. -/
import Derived.Test.YtdbfkjhdnbmpeaaWr
namespace Go.Proofs.Ytdbfkjhdnbmpeaa.St
set_option linter.unusedSimpArgs false
set_option linter.unusedVariables false
open Go Go.RowKit Go.Proofs.Ytdbfkjhdnbmpeaa Go.Proofs.Ytdbfkjhdnbmpeaa.Mm Go.Proofs.Ytdbfkjhdnbmpeaa.Wr

/-- A block: its number, its cells' type, its cells. -/
structure Ent where
  b : Nat
  t : TypeId
  c : Array Value

/-- The world w came from w0: of the old blocks those of W were written and hold what W says, all others are as they were; the blocks of N are new. -/
structure St (w0 w : World) (W N : List Ent) : Prop where
  os : w.os = w0.os
  tape : w.tape = w0.tape
  output : w.output = w0.output
  size : w0.heap.size ≤ w.heap.size
  old : ∀ k, k < w0.heap.size → (∀ e ∈ W, e.b ≠ k) → w.heap[k]? = w0.heap[k]?
  wrt : ∀ e ∈ W, e.b < w0.heap.size ∧ Blk w e.b e.t e.c
  new : ∀ e ∈ N, w0.heap.size ≤ e.b ∧ Blk w e.b e.t e.c
  sepW : (W.map (·.b)).Nodup
  sepN : (N.map (·.b)).Nodup

theorem mem0 {α : Type} {a : α} {l : List α} : a ∈ a :: l := .head _
theorem mem1 {α : Type} {a b : α} {l : List α} : a ∈ b :: a :: l := .tail _ (.head _)
theorem mem2 {α : Type} {a b c : α} {l : List α} : a ∈ b :: c :: a :: l := .tail _ mem1
theorem mem3 {α : Type} {a b c d : α} {l : List α} : a ∈ b :: c :: d :: a :: l := .tail _ mem2
theorem mem4 {α : Type} {a b c d e : α} {l : List α} : a ∈ b :: c :: d :: e :: a :: l := .tail _ mem3
theorem mem5 {α : Type} {a b c d e f : α} {l : List α} : a ∈ b :: c :: d :: e :: f :: a :: l := .tail _ mem4

theorem mem6 {α : Type} {a b c d e f g : α} {l : List α} : a ∈ b :: c :: d :: e :: f :: g :: a :: l := .tail _ mem5
theorem mem7 {α : Type} {a b c d e f g h : α} {l : List α} : a ∈ b :: c :: d :: e :: f :: g :: h :: a :: l := .tail _ mem6
theorem mem8 {α : Type} {a b c d e f g h i : α} {l : List α} : a ∈ b :: c :: d :: e :: f :: g :: h :: i :: a :: l := .tail _ mem7
theorem mem9 {α : Type} {a b c d e f g h i j : α} {l : List α} : a ∈ b :: c :: d :: e :: f :: g :: h :: i :: j :: a :: l := .tail _ mem8

theorem sep_ne {N1 N2 : List Ent} {e : Ent} (h : ((N1 ++ e :: N2).map (·.b)).Nodup) : (∀ x ∈ N1, x.b ≠ e.b) ∧ (∀ x ∈ N2, x.b ≠ e.b) := by
  rw [List.map_append, List.map_cons] at h
  have h' := List.nodup_append.1 h
  have hc := List.nodup_cons.1 h'.2.1
  exact ⟨fun x hx he => h'.2.2 x.b (List.mem_map_of_mem hx) e.b (List.mem_cons_self ..) he, fun x hx he => hc.1 (he ▸ List.mem_map_of_mem hx)⟩

section
variable {w0 w w' : World} {W W1 W2 N N' N1 N2 : List Ent} {b i : Nat} {t t' : TypeId} {c c' : Array Value}

theorem St.start (w : World) : St w w [] [] :=
  ⟨rfl, rfl, rfl, Nat.le_refl _, fun _ _ _ => rfl, fun _ h => by simp at h, fun _ h => by simp at h, List.nodup_nil, List.nodup_nil⟩
theorem St.start1 (h : Blk w b t c) : St w w [⟨b, t, c⟩] [] :=
  ⟨rfl, rfl, rfl, Nat.le_refl _, fun _ _ _ => rfl, fun e he => by rw [List.mem_singleton] at he; subst he; exact ⟨h.lt, h⟩, fun _ h => by simp at h, by simp, List.nodup_nil⟩
theorem St.start2 {b2 : Nat} {t2 : TypeId} {c2 : Array Value} (h : Blk w b t c) (h2 : Blk w b2 t2 c2) (hne : b ≠ b2) : St w w [⟨b, t, c⟩, ⟨b2, t2, c2⟩] [] :=
  ⟨rfl, rfl, rfl, Nat.le_refl _, fun _ _ _ => rfl, fun e he => by
    rw [List.mem_cons, List.mem_singleton] at he
    rcases he with rfl | rfl
    · exact ⟨h.lt, h⟩
    · exact ⟨h2.lt, h2⟩, fun _ h => by simp at h, by simp [hne], List.nodup_nil⟩
theorem St.drew (h : St w0 w W N) : St w0 w.drew W N := ⟨h.os, h.tape, h.output, h.size, h.old, h.wrt, h.new, h.sepW, h.sepN⟩
theorem St.drewN {n : Nat} (h : St w0 w W N) : St w0 (w.drewN n) W N := ⟨h.os, h.tape, h.output, h.size, h.old, h.wrt, h.new, h.sepW, h.sepN⟩
theorem St.blk (h : St w0 w W N) (m : (⟨b, t, c⟩ : Ent) ∈ N) : Blk w b t c := (h.new _ m).2
theorem St.blkW (h : St w0 w W N) (m : (⟨b, t, c⟩ : Ent) ∈ W) : Blk w b t c := (h.wrt _ m).2
theorem St.ge (h : St w0 w W N) (m : (⟨b, t, c⟩ : Ent) ∈ N) : w0.heap.size ≤ b := (h.new _ m).1
theorem St.lt (h : St w0 w W N) (m : (⟨b, t, c⟩ : Ent) ∈ N) : b < w.heap.size := (h.blk m).lt
theorem St.ltW (h : St w0 w W N) (m : (⟨b, t, c⟩ : Ent) ∈ W) : b < w0.heap.size := (h.wrt _ m).1
theorem St.setN (v : Value) (i : Nat) (h : St w0 w W (N1 ++ ⟨b, t, c⟩ :: N2)) : St w0 (w.setCell ⟨b, i, none⟩ v) W (N1 ++ ⟨b, t, c.setIfInBounds i v⟩ :: N2) := by
  have hs := sep_ne h.sepN
  have hb := h.new ⟨b, t, c⟩ (by simp)
  refine ⟨h.os, h.tape, h.output, by simpa [World.setCell] using h.size, fun k hk hne => ?_, fun e he => ?_, fun e he => ?_, h.sepW, by simpa using h.sepN⟩
  · rw [Below.heap_setCell _ _ _ _ (by show k ≠ b; have := hb.1; simp at this; omega)]; exact h.old k hk hne
  · have := h.wrt e he
    exact ⟨this.1, this.2.set_other v (by show e.b ≠ b; have h1 := hb.1; simp at h1; omega)⟩
  · rcases List.mem_append.1 he with he | he
    · have := h.new e (by simp [he])
      exact ⟨this.1, this.2.set_other v (hs.1 e he)⟩
    · rcases List.mem_cons.1 he with rfl | he
      · exact ⟨hb.1, hb.2.set v⟩
      · have := h.new e (by simp [he])
        exact ⟨this.1, this.2.set_other v (hs.2 e he)⟩
theorem St.setW (v : Value) (i : Nat) (h : St w0 w (W1 ++ ⟨b, t, c⟩ :: W2) N) : St w0 (w.setCell ⟨b, i, none⟩ v) (W1 ++ ⟨b, t, c.setIfInBounds i v⟩ :: W2) N := by
  have hs := sep_ne h.sepW
  have hb := h.wrt ⟨b, t, c⟩ (by simp)
  refine ⟨h.os, h.tape, h.output, by simpa [World.setCell] using h.size, fun k hk hne => ?_, fun e he => ?_, fun e he => ?_, by simpa using h.sepW, h.sepN⟩
  · rw [Below.heap_setCell _ _ _ _ (by show k ≠ b; exact fun e => hne ⟨b, t, c.setIfInBounds i v⟩ (by simp) e.symm)]
    refine h.old k hk fun e he => ?_
    rcases List.mem_append.1 he with he | he
    · exact hne e (by simp [he])
    · rcases List.mem_cons.1 he with rfl | he
      · exact hne ⟨b, t, c.setIfInBounds i v⟩ (by simp)
      · exact hne e (by simp [he])
  · rcases List.mem_append.1 he with he | he
    · have := h.wrt e (by simp [he])
      exact ⟨this.1, this.2.set_other v (hs.1 e he)⟩
    · rcases List.mem_cons.1 he with rfl | he
      · exact ⟨hb.1, hb.2.set v⟩
      · have := h.wrt e (by simp [he])
        exact ⟨this.1, this.2.set_other v (hs.2 e he)⟩
  · have := h.new e he
    exact ⟨this.1, this.2.set_other v (by show e.b ≠ b; have h1 := hb.1; simp at h1; have h2 := this.1; omega)⟩
theorem St.alloc (t : TypeId) (c : Array Value) (h : St w0 w W N) : St w0 (w.alloc (.cells c t (0, 0))) W (⟨w.heap.size, t, c⟩ :: N) := by
  have hlt : ∀ e ∈ N, e.b < w.heap.size := fun e he => (h.new e he).2.lt
  refine ⟨h.os, h.tape, h.output, by have := h.size; simp; omega, fun k hk hne => ?_, fun e he => ?_, fun e he => ?_, h.sepW, ?_⟩
  · rw [Below.heap_alloc _ _ _ (by have := h.size; omega)]; exact h.old k hk hne
  · have := h.wrt e he
    exact ⟨this.1, this.2.alloc _⟩
  · rcases List.mem_cons.1 he with rfl | he
    · exact ⟨h.size, Blk.new w c t⟩
    · have := h.new e he
      exact ⟨this.1, this.2.alloc _⟩
  · rw [List.map_cons, List.nodup_cons]
    refine ⟨fun hm => ?_, h.sepN⟩
    obtain ⟨e, he, hb⟩ := List.mem_map.1 hm
    have := hlt e he
    simp at hb; omega
/-- .. a new block that nothing is said of. -/
theorem St.skip {t : TypeId} {c : Array Value} (h : St w0 w W N) : St w0 (w.alloc (.cells c t (0, 0))) W N := by
  have k := h.alloc t c
  exact ⟨k.os, k.tape, k.output, k.size, k.old, k.wrt, fun e he => k.new e (List.mem_cons_of_mem _ he), k.sepW, (List.nodup_cons.1 k.sepN).2⟩
/-- Behind a call that makes blocks and writes no old one. -/
theorem St.call (h : St w0 w W N) (k : St w w' [] N') : St w0 w' W (N' ++ N) := by
  have keep : ∀ {b : Nat} {t : TypeId} {c : Array Value}, Blk w b t c → Blk w' b t c := fun hb => by
    have := hb.lt
    unfold Blk at *
    rw [k.old _ this (fun _ h => by simp at h)]; exact hb
  refine ⟨k.os.trans h.os, k.tape.trans h.tape, k.output.trans h.output, Nat.le_trans h.size k.size, fun j hj hne => ?_, fun e he => ?_, fun e he => ?_, h.sepW, ?_⟩
  · rw [k.old j (Nat.lt_of_lt_of_le hj h.size) (fun _ h => by simp at h)]; exact h.old j hj hne
  · exact ⟨(h.wrt e he).1, keep (h.wrt e he).2⟩
  · rcases List.mem_append.1 he with he | he
    · exact ⟨Nat.le_trans h.size (k.new e he).1, (k.new e he).2⟩
    · exact ⟨(h.new e he).1, keep (h.new e he).2⟩
  · rw [List.map_append, List.nodup_append]
    refine ⟨k.sepN, h.sepN, fun x hx y hy e => ?_⟩
    obtain ⟨p, hp, rfl⟩ := List.mem_map.1 hx
    obtain ⟨q, hq, rfl⟩ := List.mem_map.1 hy
    have h1 := (k.new p hp).1
    have h2 := (h.new q hq).2.lt
    omega
theorem St.perm (p : N.Perm N') (h : St w0 w W N) : St w0 w W N' :=
  ⟨h.os, h.tape, h.output, h.size, h.old, h.wrt, fun e he => h.new e (p.symm.subset he), h.sepW, (p.map _).nodup_iff.1 h.sepN⟩
theorem St.callR (h : St w0 w W N) (k : St w w' [] N') : St w0 w' W (N ++ N') := (h.call k).perm List.perm_append_comm
/-- Behind a call that writes one of the new blocks. -/
theorem St.callN (h : St w0 w W (N1 ++ ⟨b, t, c⟩ :: N2)) (k : St w w' [⟨b, t', c'⟩] N') : St w0 w' W (N' ++ (N1 ++ ⟨b, t', c'⟩ :: N2)) := by
  have hs := sep_ne h.sepN
  have hb := h.new ⟨b, t, c⟩ (by simp)
  have keep : ∀ {b1 : Nat} {t : TypeId} {c : Array Value}, b1 ≠ b → Blk w b1 t c → Blk w' b1 t c := fun hne hb => by
    have := hb.lt
    unfold Blk at *
    rw [k.old _ this (fun e h => by rw [List.mem_singleton] at h; subst h; exact fun e => hne e.symm)]; exact hb
  refine ⟨k.os.trans h.os, k.tape.trans h.tape, k.output.trans h.output, Nat.le_trans h.size k.size, fun j hj hne => ?_, fun e he => ?_, fun e he => ?_, h.sepW, ?_⟩
  · rw [k.old j (Nat.lt_of_lt_of_le hj h.size) (fun e h => by rw [List.mem_singleton] at h; subst h; have h1 := hb.1; simp at h1; show b ≠ j; omega)]; exact h.old j hj hne
  · have := h.wrt e he
    exact ⟨this.1, keep (by have h1 := hb.1; simp at h1; omega) this.2⟩
  · rcases List.mem_append.1 he with he | he
    · exact ⟨Nat.le_trans h.size (k.new e he).1, (k.new e he).2⟩
    · rcases List.mem_append.1 he with he | he
      · have := h.new e (by simp [he])
        exact ⟨this.1, keep (hs.1 e he) this.2⟩
      · rcases List.mem_cons.1 he with rfl | he
        · exact ⟨hb.1, (k.wrt ⟨b, t', c'⟩ (by simp)).2⟩
        · have := h.new e (by simp [he])
          exact ⟨this.1, keep (hs.2 e he) this.2⟩
  · rw [List.map_append, List.nodup_append]
    refine ⟨k.sepN, by simpa using h.sepN, fun x hx y hy e => ?_⟩
    obtain ⟨p, hp, rfl⟩ := List.mem_map.1 hx
    have hy' : y ∈ (N1 ++ ⟨b, t, c⟩ :: N2).map (·.b) := by simpa using hy
    obtain ⟨q, hq, rfl⟩ := List.mem_map.1 hy'
    have h1 := (k.new p hp).1
    have h2 := (h.new q hq).2.lt
    omega
/-- Behind a call that writes one of the old blocks that may be written. -/
theorem St.callW (h : St w0 w (W1 ++ ⟨b, t, c⟩ :: W2) N) (k : St w w' [⟨b, t', c'⟩] N') : St w0 w' (W1 ++ ⟨b, t', c'⟩ :: W2) (N' ++ N) := by
  have hs := sep_ne h.sepW
  have hb := h.wrt ⟨b, t, c⟩ (by simp)
  have keep : ∀ {b1 : Nat} {t : TypeId} {c : Array Value}, b1 ≠ b → Blk w b1 t c → Blk w' b1 t c := fun hne hb => by
    have := hb.lt
    unfold Blk at *
    rw [k.old _ this (fun e h => by rw [List.mem_singleton] at h; subst h; exact fun e => hne e.symm)]; exact hb
  refine ⟨k.os.trans h.os, k.tape.trans h.tape, k.output.trans h.output, Nat.le_trans h.size k.size, fun j hj hne => ?_, fun e he => ?_, fun e he => ?_, by simpa using h.sepW, ?_⟩
  · have hjb : b ≠ j := hne ⟨b, t', c'⟩ (by simp)
    rw [k.old j (Nat.lt_of_lt_of_le hj h.size) (fun e h => by rw [List.mem_singleton] at h; subst h; exact hjb)]
    refine h.old j hj fun e he => ?_
    rcases List.mem_append.1 he with he | he
    · exact hne e (by simp [he])
    · rcases List.mem_cons.1 he with rfl | he
      · exact hjb
      · exact hne e (by simp [he])
  · rcases List.mem_append.1 he with he | he
    · have := h.wrt e (by simp [he])
      exact ⟨this.1, keep (hs.1 e he) this.2⟩
    · rcases List.mem_cons.1 he with rfl | he
      · exact ⟨hb.1, (k.wrt ⟨b, t', c'⟩ (by simp)).2⟩
      · have := h.wrt e (by simp [he])
        exact ⟨this.1, keep (hs.2 e he) this.2⟩
  · rcases List.mem_append.1 he with he | he
    · exact ⟨Nat.le_trans h.size (k.new e he).1, (k.new e he).2⟩
    · have := h.new e he
      exact ⟨this.1, keep (by have h1 := hb.1; simp at h1; omega) this.2⟩
  · rw [List.map_append, List.nodup_append]
    refine ⟨k.sepN, h.sepN, fun x hx y hy e => ?_⟩
    obtain ⟨p, hp, rfl⟩ := List.mem_map.1 hx
    obtain ⟨q, hq, rfl⟩ := List.mem_map.1 hy
    have h1 := (k.new p hp).1
    have h2 := (h.new q hq).2.lt
    omega
/-- Some of the new blocks are not spoken of any more. -/
theorem St.drop (hs : N'.Sublist N) (h : St w0 w W N) : St w0 w W N' :=
  ⟨h.os, h.tape, h.output, h.size, h.old, h.wrt, fun e he => h.new e (hs.subset he), h.sepW, h.sepN.sublist (hs.map _)⟩
theorem St.nil (h : St w0 w W N) : St w0 w W [] := h.drop (List.nil_sublist _)
theorem St.below (h : St w0 w [] N) : Below w0.heap.size w0 w := ⟨h.os, h.tape, h.output, h.size, fun k hk => h.old k hk fun _ h => by simp at h⟩
theorem St.but (h : St w0 w [⟨b, t, c⟩] N) : But b w0 w := ⟨h.os, h.tape, h.output, h.size, fun k hk hne => h.old k hk fun e he => by rw [List.mem_singleton] at he; subst he; exact fun e => hne e.symm⟩
theorem St.of_below (h : Below w0.heap.size w0 w) : St w0 w [] [] :=
  ⟨h.os, h.tape, h.output, h.size, fun k hk _ => h.block k hk, fun _ h => by simp at h, fun _ h => by simp at h, List.nodup_nil, List.nodup_nil⟩
theorem St.of_made (h : Below w0.heap.size w0 w) (hb : Blk w b t c) (hle : w0.heap.size ≤ b) : St w0 w [] [⟨b, t, c⟩] :=
  ⟨h.os, h.tape, h.output, h.size, fun k hk _ => h.block k hk, fun _ h => by simp at h, fun e he => by rw [List.mem_singleton] at he; subst he; exact ⟨hle, hb⟩, List.nodup_nil, by simp⟩
theorem St.of_but (h : But b w0 w) (hb : Blk w b t c) (hlt : b < w0.heap.size) : St w0 w [⟨b, t, c⟩] [] :=
  ⟨h.os, h.tape, h.output, h.size, fun k hk hne => h.block k hk (fun e => hne ⟨b, t, c⟩ (by simp) e.symm), fun e he => by rw [List.mem_singleton] at he; subst he; exact ⟨hlt, hb⟩, fun _ h => by simp at h, by simp, List.nodup_nil⟩
theorem St.ext {A : Option Addr} {l : List Nat} (h : St w0 w [] N) (r : Rd w0 A l) : Rd w A l := Wr.Rd.below r h.below
theorem St.keepB (h : St w0 w W N) (hb : Blk w0 b t c) (hne : ∀ e ∈ W, e.b ≠ b) : Blk w b t c := by
  have := hb.lt
  unfold Blk at *
  rw [h.old b this hne]; exact hb
theorem St.ne (i j : Nat) {e e' : Ent} (h : St w0 w W N) (hi : N[i]? = some e) (hj : N[j]? = some e') (hij : i ≠ j) : e.b ≠ e'.b := by
  intro hb
  obtain ⟨hi1, hi2⟩ := List.getElem?_eq_some_iff.1 hi
  obtain ⟨hj1, hj2⟩ := List.getElem?_eq_some_iff.1 hj
  have hn := List.nodup_iff_pairwise_ne.1 h.sepN
  rw [List.pairwise_iff_getElem] at hn
  have key : ∀ a b (ha : a < N.length) (hb : b < N.length), a < b → N[a].b ≠ N[b].b := fun a b ha hb hab => by
    have := hn a b (by simpa using ha) (by simpa using hb) hab
    simpa using this
  rcases Nat.lt_or_gt_of_ne hij with hlt | hlt
  · exact key i j hi1 hj1 hlt (by rw [hi2, hj2]; exact hb)
  · exact key j i hj1 hi1 hlt (by rw [hi2, hj2]; exact hb.symm)
theorem St.keep0 (h : St w0 w [] N) (hb : Blk w0 b t c) : Blk w b t c := h.keepB hb (fun _ he => by simp at he)
theorem St.ne0 {b0 : Nat} (h : St w0 w W N) (hlt : b0 < w0.heap.size) (m : (⟨b, t, c⟩ : Ent) ∈ N) : b0 ≠ b := by
  have := h.ge m
  omega
/-- What was there reads as before: two rules for the walk. -/
theorem St.rules (h : St w0 w [] N) : (∀ b o, b < w0.heap.size → w.cell? ⟨b, o, none⟩ = w0.cell? ⟨b, o, none⟩) ∧ (∀ b o, b < w0.heap.size → w.frozen? ⟨b, o, none⟩ = w0.frozen? ⟨b, o, none⟩) := bcell h.below
end

/-- A block of bytes. -/
abbrev bt (b : Nat) (l : List Nat) : Ent := ⟨b, 5, row .u8 l⟩

section
variable {w0 w w' : World} {W W1 W2 N N' N1 N2 : List Ent} {b i : Nat} {t : TypeId} {k : IntKind} {l : List Nat}
theorem St.rd (h : St w0 w W N) (m : (⟨b, t, row .u8 l⟩ : Ent) ∈ N) : Rd w (some ⟨b, 0, none⟩) l := Rd.of_blk (h.blk m)
theorem St.rdW (h : St w0 w W N) (m : (⟨b, t, row .u8 l⟩ : Ent) ∈ W) : Rd w (some ⟨b, 0, none⟩) l := Rd.of_blk (h.blkW m)
theorem St.setRow (i v : Nat) (h : St w0 w W (N1 ++ ⟨b, t, row k l⟩ :: N2)) : St w0 (w.setCell ⟨b, i, none⟩ (.int k (v : Int))) W (N1 ++ ⟨b, t, row k (l.set i v)⟩ :: N2) := by
  rw [← row_set]; exact h.setN _ _
theorem St.setRowW (i v : Nat) (h : St w0 w (W1 ++ ⟨b, t, row k l⟩ :: W2) N) : St w0 (w.setCell ⟨b, i, none⟩ (.int k (v : Int))) (W1 ++ ⟨b, t, row k (l.set i v)⟩ :: W2) N := by
  rw [← row_set]; exact h.setW _ _
end

theorem _root_.Go.Proofs.Ytdbfkjhdnbmpeaa.Mm.Rd.nil (w : World) (A : Option Addr) : Rd w A [] := fun h => by simp at h
/-- A piece of a list that reads. -/
theorem _root_.Go.Proofs.Ytdbfkjhdnbmpeaa.Mm.Rd.piece {w : World} {b o : Nat} {l : List Nat} (r : Rd w (some ⟨b, o, none⟩) l) (k n : Nat) : Rd w (some ⟨b, o + k, none⟩) ((l.drop k).take n) := by
  intro h
  rw [List.length_take, List.length_drop] at h
  obtain ⟨b', o', e, hc⟩ := r (by omega)
  injection e with e
  injection e with e1 e2 _
  subst e1 e2
  refine ⟨_, _, rfl, fun i hi => ?_⟩
  rw [List.length_take, List.length_drop] at hi
  have := hc (k + i) (by omega)
  rw [Nat.add_assoc, this]
  congr 3
  simp [show i < n by omega]
theorem _root_.Go.Proofs.Ytdbfkjhdnbmpeaa.Wr.B8.piece {l : List Nat} (h : B8 l) (k n : Nat) : B8 ((l.drop k).take n) := fun x hx => h x (List.mem_of_mem_drop (List.mem_of_mem_take hx))
theorem _root_.Go.Proofs.Ytdbfkjhdnbmpeaa.Wr.B8.take {l : List Nat} (h : B8 l) (n : Nat) : B8 (l.take n) := fun x hx => h x (List.mem_of_mem_take hx)
theorem _root_.Go.Proofs.Ytdbfkjhdnbmpeaa.Wr.B8.drop {l : List Nat} (h : B8 l) (n : Nat) : B8 (l.drop n) := fun x hx => h x (List.mem_of_mem_drop hx)

end Go.Proofs.Ytdbfkjhdnbmpeaa.St
