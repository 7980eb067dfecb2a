/- Words on memory: lists of lists of bytes: how they read; each in a block of its own; several blocks written by one call. No program in sight but the numbers of types. -/
import Derived.Test.YtdbfkjhdnbmpeaaAk
import Derived.Test.YtdbfkjhdnbmpeaaOb
import Derived.Lib.SliceRun
namespace Go.Proofs.Ytdbfkjhdnbmpeaa.St
set_option linter.unusedSimpArgs false
set_option linter.unusedVariables false
open Go Go.RowKit Go.Proofs.Ytdbfkjhdnbmpeaa Go.Proofs.Ytdbfkjhdnbmpeaa.Mm Go.Proofs.Ytdbfkjhdnbmpeaa.Wr

/-- An address that lies in none of the blocks bs. -/
def Off (bs : List Nat) (A : Option Addr) : Prop := ∀ a, A = some a → a.block ∉ bs
theorem Off.none (bs : List Nat) : Off bs none := fun _ h => by cases h
theorem Off.nil (A : Option Addr) : Off [] A := fun _ _ => by simp
theorem Off.some {bs : List Nat} {b o : Nat} (h : b ∉ bs) : Off bs (some ⟨b, o, Option.none⟩) := fun a e => by injection e with e; subst e; exact h
theorem Off.sub {bs bs' : List Nat} {A : Option Addr} (h : Off bs A) (hs : ∀ b ∈ bs', b ∈ bs) : Off bs' A := fun a e hb => h a e (hs _ hb)
theorem Off.cut {bs : List Nat} {A : Option Addr} {c lo : Nat} (h : Off bs A) : Off bs (cutA A c lo) := by
  unfold cutA
  split
  · exact h
  · intro a e
    cases A with
    | none => cases e
    | some x =>
      injection e with e
      rw [← e]
      have : (x.add lo).block = x.block := by unfold Addr.add; split <;> rfl
      show (x.add lo).block ∉ bs
      rw [this]; exact h x rfl
/-- .. above all old ones. -/
theorem Off.old {w : World} {A : Option Addr} {bs : List Nat} (h : ∀ a, A = Option.some a → a.block < w.heap.size) (hb : ∀ b ∈ bs, w.heap.size ≤ b) : Off bs A := fun a e hm => by
  have := h a e; have := hb _ hm; omega

/-- A list of lists of bytes that is read; nothing of it lies in the blocks bs. -/
def RdL (w : World) (bs : List Nat) (A : Option Addr) (L : List (List Nat)) : Prop :=
  ∃ ds : List Sd, RdV es w A ds ∧ Off bs A ∧ ds.length = L.length ∧ ∀ i d, ds[i]? = some d → d.n = (L.getD i []).length ∧ d.n ≤ d.c ∧ Rd w d.A (L.getD i []) ∧ Off bs d.A
theorem RdL.below {w w' : World} {bs : List Nat} {A : Option Addr} {L : List (List Nat)} (h : RdL w bs A L) (hb : Below w.heap.size w w') : RdL w' bs A L := by
  obtain ⟨ds, h1, h0, h2, h3⟩ := h
  exact ⟨ds, h1.below hb, h0, h2, fun i d hd => ⟨(h3 i d hd).1, (h3 i d hd).2.1, Wr.Rd.below (h3 i d hd).2.2.1 hb, (h3 i d hd).2.2.2⟩⟩
theorem RdL.drewN {w : World} {bs : List Nat} {A : Option Addr} {L : List (List Nat)} (n : Nat) (h : RdL w bs A L) : RdL (w.drewN n) bs A L := h
theorem RdL.sub {w : World} {bs bs' : List Nat} {A : Option Addr} {L : List (List Nat)} (h : RdL w bs A L) (hs : ∀ b ∈ bs', b ∈ bs) : RdL w bs' A L := by
  obtain ⟨ds, h1, h0, h2, h3⟩ := h
  exact ⟨ds, h1, h0.sub hs, h2, fun i d hd => ⟨(h3 i d hd).1, (h3 i d hd).2.1, (h3 i d hd).2.2.1, (h3 i d hd).2.2.2.sub hs⟩⟩
theorem RdL.at {w : World} {bs : List Nat} {A : Option Addr} {L : List (List Nat)} {i : Nat} (h : RdL w bs A L) (hi : i < L.length) :
    ∃ b o B c, A = some ⟨b, o, none⟩ ∧ w.cell? ⟨b, o + i, none⟩ = some (.slice B (L.getD i []).length c) ∧ (L.getD i []).length ≤ c ∧ Rd w B (L.getD i []) ∧ Off bs B := by
  obtain ⟨ds, h1, _, h2, h3⟩ := h
  obtain ⟨b, o, hA, hc⟩ := h1 (by omega)
  have hd : ds[i]? = some (ds[i]'(by omega)) := by simp
  obtain ⟨k1, k2, k3, k4⟩ := h3 i _ hd
  have := hc i _ hd
  simp only [es] at this
  rw [k1] at this k2
  exact ⟨b, o, _, _, hA, this, k2, k3, k4⟩
theorem St.extL {w0 w : World} {N : List Ent} {bs : List Nat} {A : Option Addr} {L : List (List Nat)} (h : St w0 w [] N) (r : RdL w0 bs A L) : RdL w bs A L := r.below h.below

/-- Lists, each in a block of its own: the slices; the blocks. -/
def sds (bs : List Nat) (L : List (List Nat)) : List Sd := List.zipWith (fun b (l : List Nat) => (⟨some ⟨b, 0, none⟩, l.length, l.length⟩ : Sd)) bs L
def ents (bs : List Nat) (L : List (List Nat)) : List Ent := List.zipWith bt bs L
theorem sds_length {bs : List Nat} {L : List (List Nat)} (h : bs.length = L.length) : (sds bs L).length = L.length := by simp [sds, h]
theorem ents_length {bs : List Nat} {L : List (List Nat)} (h : bs.length = L.length) : (ents bs L).length = L.length := by simp [ents, h]
theorem sds_get {bs : List Nat} {L : List (List Nat)} {i : Nat} (h : bs.length = L.length) (hi : i < L.length) : (sds bs L)[i]? = some ⟨some ⟨bs.getD i 0, 0, none⟩, (L.getD i []).length, (L.getD i []).length⟩ := by
  have h1 : i < bs.length := by omega
  unfold sds; rw [List.getElem?_zipWith]; simp [h1, hi]
theorem ents_get {bs : List Nat} {L : List (List Nat)} {i : Nat} (h : bs.length = L.length) (hi : i < L.length) : (ents bs L)[i]? = some (bt (bs.getD i 0) (L.getD i [])) := by
  have h1 : i < bs.length := by omega
  unfold ents; rw [List.getElem?_zipWith]; simp [h1, hi]
theorem ents_mem {bs : List Nat} {L : List (List Nat)} {i : Nat} (h : bs.length = L.length) (hi : i < L.length) : bt (bs.getD i 0) (L.getD i []) ∈ ents bs L := List.mem_of_getElem? (ents_get h hi)
theorem ents_b : ∀ {bs : List Nat} {L : List (List Nat)}, bs.length = L.length → (ents bs L).map (·.b) = bs
  | [], [], _ => rfl
  | b :: bs, l :: L, h => by
    show b :: (ents bs L).map (·.b) = b :: bs
    rw [ents_b (by simpa using h)]
  | [], _ :: _, h => by simp at h
  | _ :: _, [], h => by simp at h
theorem ents_snoc {bs : List Nat} {L : List (List Nat)} {b : Nat} {l : List Nat} (h : bs.length = L.length) : ents (bs ++ [b]) (L ++ [l]) = ents bs L ++ [bt b l] := by
  unfold ents; rw [List.zipWith_append h]; rfl
theorem sds_snoc {bs : List Nat} {L : List (List Nat)} {b : Nat} {l : List Nat} (h : bs.length = L.length) : sds (bs ++ [b]) (L ++ [l]) = sds bs L ++ [⟨some ⟨b, 0, none⟩, l.length, l.length⟩] := by
  unfold sds; rw [List.zipWith_append h]; rfl
/-- One of the lists at hand. -/
theorem ents_split : ∀ {bs : List Nat} {L : List (List Nat)} {i : Nat}, bs.length = L.length → i < L.length →
    ∃ p q, ents bs L = p ++ bt (bs.getD i 0) (L.getD i []) :: q ∧ ∀ l, ents bs (L.set i l) = p ++ bt (bs.getD i 0) l :: q
  | [], l :: L, _, h, _ => by simp at h
  | _, [], _, _, hi => by simp at hi
  | b :: bs, l :: L, 0, _, _ => ⟨[], ents bs L, rfl, fun _ => rfl⟩
  | b :: bs, l :: L, i + 1, h, hi => by
    obtain ⟨p, q, h1, h2⟩ := ents_split (bs := bs) (L := L) (i := i) (by simpa using h) (by simpa using hi)
    refine ⟨bt b l :: p, q, ?_, fun x => ?_⟩
    · show bt b l :: ents bs L = _
      rw [h1]; simp
    · show bt b l :: ents bs (L.set i x) = _
      rw [h2]; simp
theorem sds_len : ∀ {bs : List Nat} {L L' : List (List Nat)}, L.map (·.length) = L'.map (·.length) → sds bs L = sds bs L'
  | [], L, L', _ => by simp [sds]
  | b :: bs, [], [], _ => rfl
  | b :: bs, l :: L, l' :: L', h => by
    simp only [List.map_cons, List.cons.injEq] at h
    show (⟨_, _, _⟩ : Sd) :: sds bs L = ⟨_, _, _⟩ :: sds bs L'
    rw [sds_len h.2, h.1]
  | _ :: _, [], _ :: _, h => by simp at h
  | _ :: _, _ :: _, [], h => by simp at h
theorem map_len_set {L : List (List Nat)} {i : Nat} {l : List Nat} (h : l.length = (L.getD i []).length) : (L.set i l).map (·.length) = L.map (·.length) := by
  apply List.ext_getElem?
  intro j
  rw [List.getElem?_map, List.getElem?_map, List.getElem?_set]
  by_cases e : i = j
  · subst e
    rw [if_pos rfl]
    by_cases hi : i < L.length
    · rw [if_pos hi]
      simp only [hi, List.getElem?_eq_getElem, Option.map_some]
      rw [h]; simp [hi]
    · rw [if_neg hi, List.getElem?_eq_none (by omega)]
  · rw [if_neg e]

section
variable {w0 w w' : World} {W N N' N1 N2 X X' : List Ent}
theorem St.apart {A B : List Ent} (h : St w0 w W (A ++ B)) {e e' : Ent} (he : e ∈ A) (he' : e' ∈ B) : e.b ≠ e'.b := by
  have := h.sepN
  rw [List.map_append, List.nodup_append] at this
  exact this.2.2 _ (List.mem_map.2 ⟨e, he, rfl⟩) _ (List.mem_map.2 ⟨e', he', rfl⟩)
/-- The blocks X, as old ones that may be written. -/
theorem St.startX (h : ∀ e ∈ X, Blk w e.b e.t e.c) (hn : (X.map (·.b)).Nodup) : St w w X [] :=
  ⟨rfl, rfl, rfl, Nat.le_refl _, fun _ _ _ => rfl, fun e he => ⟨(h e he).lt, h e he⟩, fun _ h => by simp at h, hn, List.nodup_nil⟩
theorem St.subX (h : St w0 w W (N1 ++ (X ++ N2))) : St w w X [] := by
  refine St.startX (fun e he => (h.new e (by simp [he])).2) ?_
  have := h.sepN
  rw [List.map_append, List.map_append, List.nodup_append] at this
  exact (List.nodup_append.1 this.2.1).1
/-- Behind a call that writes several of the new blocks. -/
theorem St.callNs (h : St w0 w W (N1 ++ (X ++ N2))) (k : St w w' X' N') (hX : X'.map (·.b) = X.map (·.b)) : St w0 w' W (N' ++ (N1 ++ (X' ++ N2))) := by
  have hsep : ((N1 ++ (X' ++ N2)).map (·.b)).Nodup := by
    have := h.sepN
    simp only [List.map_append] at this ⊢
    rw [hX]; exact this
  have hin : ∀ e ∈ X', ∃ e' ∈ X, e'.b = e.b := fun e he => by
    have : e.b ∈ X'.map (·.b) := List.mem_map.2 ⟨e, he, rfl⟩
    rw [hX] at this
    exact List.mem_map.1 this
  have keep : ∀ {b1 : Nat} {t : TypeId} {c : Array Value}, (∀ e ∈ X', e.b ≠ b1) → Blk w b1 t c → Blk w' b1 t c := fun hne hb => by
    have := hb.lt
    unfold Blk at *
    rw [k.old _ this hne]; exact hb
  have hge : ∀ e ∈ X', w0.heap.size ≤ e.b := fun e he => by
    obtain ⟨e', he', hb⟩ := hin e he
    rw [← hb]; exact (h.new e' (by simp [he'])).1
  rw [List.map_append, List.map_append, List.nodup_append] at hsep
  refine ⟨k.os.trans h.os, k.tape.trans h.tape, k.output.trans h.output, Nat.le_trans h.size k.size, fun j hj hne => ?_, fun e he => ?_, fun e he => ?_, h.sepW, ?_⟩
  · rw [k.old j (Nat.lt_of_lt_of_le hj h.size) (fun e he => by have := hge e he; omega)]; exact h.old j hj hne
  · have := h.wrt e he
    exact ⟨this.1, keep (fun e' he' => by have := hge e' he'; omega) this.2⟩
  · rcases List.mem_append.1 he with he | he
    · exact ⟨Nat.le_trans h.size (k.new e he).1, (k.new e he).2⟩
    · rcases List.mem_append.1 he with he | he
      · have := h.new e (by simp [he])
        exact ⟨this.1, keep (fun e' he' => fun hb => hsep.2.2 e.b (List.mem_map.2 ⟨e, he, rfl⟩) e'.b (by simp only [List.mem_append, List.mem_map]; exact .inl ⟨e', he', rfl⟩) hb.symm) this.2⟩
      · rcases List.mem_append.1 he with he | he
        · exact ⟨hge e he, (k.wrt e he).2⟩
        · have := h.new e (by simp [he])
          refine ⟨this.1, keep (fun e' he' => fun hb => ?_) this.2⟩
          have h2 := hsep.2.1
          rw [List.nodup_append] at h2
          exact h2.2.2 e'.b (List.mem_map.2 ⟨e', he', rfl⟩) e.b (List.mem_map.2 ⟨e, he, rfl⟩) hb
  · rw [List.map_append, List.nodup_append]
    refine ⟨k.sepN, ?_, fun x hx y hy e => ?_⟩
    · rw [List.map_append, List.map_append, List.nodup_append]; exact hsep
    · obtain ⟨p, hp, rfl⟩ := List.mem_map.1 hx
      obtain ⟨q, hq, rfl⟩ := List.mem_map.1 hy
      have h1 := (k.new p hp).1
      have h2 : q.b < w.heap.size := by
        rcases List.mem_append.1 hq with hq | hq
        · exact (h.new q (by simp [hq])).2.lt
        · rcases List.mem_append.1 hq with hq | hq
          · exact (k.wrt q hq).1
          · exact (h.new q (by simp [hq])).2.lt
      omega
/-- .. several of the old blocks that may be written. -/
theorem St.callWs (h : St w0 w X N) (k : St w w' X' N') (hX : X'.map (·.b) = X.map (·.b)) : St w0 w' X' (N' ++ N) := by
  have hin : ∀ e ∈ X', ∃ e' ∈ X, e'.b = e.b := fun e he => by
    have : e.b ∈ X'.map (·.b) := List.mem_map.2 ⟨e, he, rfl⟩
    rw [hX] at this
    exact List.mem_map.1 this
  have hin' : ∀ e ∈ X, ∃ e' ∈ X', e'.b = e.b := fun e he => by
    have : e.b ∈ X.map (·.b) := List.mem_map.2 ⟨e, he, rfl⟩
    rw [← hX] at this
    exact List.mem_map.1 this
  have hlt : ∀ e ∈ X', e.b < w0.heap.size := fun e he => by
    obtain ⟨e', he', hb⟩ := hin e he
    rw [← hb]; exact (h.wrt e' he').1
  have keep : ∀ {b1 : Nat} {t : TypeId} {c : Array Value}, (∀ e ∈ X', e.b ≠ b1) → Blk w b1 t c → Blk w' b1 t c := fun hne hb => by
    have := hb.lt
    unfold Blk at *
    rw [k.old _ this hne]; exact hb
  refine ⟨k.os.trans h.os, k.tape.trans h.tape, k.output.trans h.output, Nat.le_trans h.size k.size, fun j hj hne => ?_, fun e he => ⟨hlt e he, (k.wrt e he).2⟩, fun e he => ?_, by rw [hX]; exact h.sepW, ?_⟩
  · rw [k.old j (Nat.lt_of_lt_of_le hj h.size) hne]
    refine h.old j hj fun e he => ?_
    obtain ⟨e', he', hb⟩ := hin' e he
    rw [← hb]; exact hne e' he'
  · rcases List.mem_append.1 he with he | he
    · exact ⟨Nat.le_trans h.size (k.new e he).1, (k.new e he).2⟩
    · have := h.new e he
      exact ⟨this.1, keep (fun e' he' => by have := hlt e' he'; omega) this.2⟩
  · rw [List.map_append, List.nodup_append]
    refine ⟨k.sepN, h.sepN, fun x hx y hy e => ?_⟩
    obtain ⟨p, hp, rfl⟩ := List.mem_map.1 hx
    obtain ⟨q, hq, rfl⟩ := List.mem_map.1 hy
    have h1 := (k.new p hp).1
    have h2 := (h.new q hq).2.lt
    omega
theorem St.rulesX (h : St w0 w W N) {b : Nat} (hlt : b < w0.heap.size) (hne : ∀ e ∈ W, e.b ≠ b) (o : Nat) : w.cell? ⟨b, o, none⟩ = w0.cell? ⟨b, o, none⟩ := by
  unfold World.cell?
  rw [h.old b hlt hne]
/-- A list that is read out of a block that isn't written. -/
theorem St.rdX {A : Option Addr} {l bs : List Nat} (h : St w0 w W N) (r : Rd w0 A l) (ho : Off bs A) (hW : ∀ e ∈ W, e.b ∈ bs) : Rd w A l := by
  intro h0
  obtain ⟨b, o, hA, hc⟩ := r h0
  exact ⟨b, o, hA, fun i hi => by rw [h.rulesX (cell_lt (hc i hi)) (fun e he hb => ho ⟨b, o, none⟩ hA (by have := hW e he; rw [hb] at this; exact this))]; exact hc i hi⟩
theorem St.rdVX {α : Type} {enc : α → Value} {A : Option Addr} {l : List α} {bs : List Nat} (h : St w0 w W N) (r : RdV enc w0 A l) (ho : Off bs A) (hW : ∀ e ∈ W, e.b ∈ bs) : RdV enc w A l := by
  intro h0
  obtain ⟨b, o, hA, hc⟩ := r h0
  exact ⟨b, o, hA, fun i x hx => by rw [h.rulesX (cell_lt (hc i x hx)) (fun e he hb => ho ⟨b, o, none⟩ hA (by have := hW e he; rw [hb] at this; exact this))]; exact hc i x hx⟩
theorem St.rdLX {A : Option Addr} {L : List (List Nat)} {bs : List Nat} (h : St w0 w W N) (r : RdL w0 bs A L) (hW : ∀ e ∈ W, e.b ∈ bs) : RdL w bs A L := by
  obtain ⟨ds, h1, h0, h2, h3⟩ := r
  exact ⟨ds, h.rdVX h1 h0 hW, h0, h2, fun i d hd => ⟨(h3 i d hd).1, (h3 i d hd).2.1, h.rdX (h3 i d hd).2.2.1 (h3 i d hd).2.2.2 hW, (h3 i d hd).2.2.2⟩⟩
/-- Zeros written over a piece of an old block. -/
theorem St.zerosW {W1 W2 : List Ent} {b : Nat} : ∀ (n o : Nat) (D : List Nat) (w : World), St w0 w (W1 ++ bt b D :: W2) N → St w0 (w.setCells b o (List.replicate n (.int .u8 0))) (W1 ++ bt b (Wr.wr D o (List.replicate n 0)) :: W2) N
  | 0, _, _, _, h => h
  | n + 1, o, D, w, h => by
    rw [List.replicate_succ, List.replicate_succ]
    show St w0 ((w.setCell ⟨b, o, none⟩ (.int .u8 0)).setCells b (o + 1) (List.replicate n (.int .u8 0))) (W1 ++ bt b (Wr.wr (D.set o 0) (o + 1) (List.replicate n 0)) :: W2) N
    exact St.zerosW n (o + 1) (D.set o 0) _ (h.setRowW o 0)
end

section
variable {P : Program} {w0 w : World} {W N : List Ent} {ops : Array Oper} {rest : List Oper} {o : Oper} {a : Act} {Q : Exit → Act → World → Prop}
/-- A slice literal. -/
theorem bslice_st (hgd : o.guard = none) (t e : TypeId) (n : Nat) (parts : Array (Nat × Operand)) (c : Array Value) (ho : o.op = .buildSlice t n parts)
    (h : ∀ w : World, (Instr.buildSlice t n (parts.map fun (i, x) => (i, a.eval x))).run P w = .ok (.slice (some ⟨w.heap.size, 0, none⟩) n n) (w.alloc (.cells c e (0, 0)))) (hs : St w0 w W N)
    (hK : ∀ b w', St w0 w' W (⟨b, e, c⟩ :: N) → wpList P ops Q rest (a.put o.dst (.slice (some ⟨b, 0, none⟩) n n)) w') : wpList P ops Q (o :: rest) a w :=
  ev hgd (bslice_run t e n parts c ho h) (hK _ _ (hs.alloc e c))
end
theorem info_sl9 : (Try.prog.info? 39).map (fun i => (i.zero, i.size, i.bytes)) = some (some (es ⟨none, 0, 0⟩), 1, 24) := by kernel_rfl

/-- A copied list of lists: the outer list's block G, the inner ones' bs. -/
def CopyL (A : Option Addr) (n c : Nat) (bs : List Nat) (L : List (List Nat)) (G : List Ent) : Prop := bs.length = L.length ∧ n = L.length ∧ GrowV es 39 (.slice A n c) (sds bs L) G ∧ (n = 0 → A = none)
theorem CopyL.rdV {w0 w : World} {W N : List Ent} {A : Option Addr} {n c : Nat} {bs : List Nat} {L : List (List Nat)} {G : List Ent} (h : CopyL A n c bs L G) (hs : St w0 w W N) (hG : ∀ e ∈ G, e ∈ N) : RdV es w A (sds bs L) := by
  have h3 := h.2.2.1
  unfold GrowV at h3
  have e : (sds bs L).length = n := by rw [sds_length h.1, h.2.1]
  rw [e] at h3
  exact (Grow.hold h3).rd hs hG
theorem rdL_of {w : World} {A : Option Addr} {bs xs : List Nat} {L : List (List Nat)} (hbs : bs.length = L.length) (h1 : RdV es w A (sds bs L)) (hA : Off xs A) (h2 : ∀ e ∈ ents bs L, Blk w e.b e.t e.c) (hx : ∀ b ∈ bs, b ∉ xs) : RdL w xs A L := by
  refine ⟨sds bs L, h1, hA, sds_length hbs, fun i d hd => ?_⟩
  have hi : i < L.length := by
    have := (List.getElem?_eq_some_iff.1 hd).1
    rw [sds_length hbs] at this; exact this
  rw [sds_get hbs hi] at hd
  injection hd with hd
  subst hd
  refine ⟨rfl, Nat.le_refl _, Rd.of_blk (h2 _ (ents_mem hbs hi)), Off.some (hx _ ?_)⟩
  rw [List.getD_eq_getElem?_getD, List.getElem?_eq_getElem (by omega), Option.getD_some]
  exact List.getElem_mem _
theorem CopyL.off {A : Option Addr} {n c : Nat} {bs xs : List Nat} {L : List (List Nat)} {G : List Ent} (h : CopyL A n c bs L G) (hG : ∀ e ∈ G, e.b ∉ xs) : Off xs A := by
  rcases h.2.2.1.2 with ⟨B, e, h0, _⟩ | ⟨g, cap, cur, e, _, _, _, _, _, rfl⟩
  · rw [sds_length h.1, ← h.2.1] at h0
    rw [h.2.2.2 h0]; exact Off.none _
  · injection e with e _ _
    rw [e]
    exact Off.some (hG _ (List.mem_singleton.2 rfl))
theorem CopyL.rd {w0 w : World} {W N : List Ent} {A : Option Addr} {n c : Nat} {bs xs : List Nat} {L : List (List Nat)} {G : List Ent} (h : CopyL A n c bs L G) (hs : St w0 w W N) (hG : ∀ e ∈ G, e ∈ N) (hE : ∀ e ∈ ents bs L, e ∈ N) (hGx : ∀ e ∈ G, e.b ∉ xs) (hx : ∀ b ∈ bs, b ∉ xs) : RdL w xs A L :=
  rdL_of h.1 (h.rdV hs hG) (h.off hGx) (fun e he => (hs.new e (hE e he)).2) hx

end Go.Proofs.Ytdbfkjhdnbmpeaa.St
