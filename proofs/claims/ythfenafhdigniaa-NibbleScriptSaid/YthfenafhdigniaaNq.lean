/- Layer 6: calls over a family of lists that live on. -/
import Derived.Test.YthfenafhdigniaaN6
import Derived.Test.YthfenafhdigniaaAk
import Derived.Test.YthfenafhdigniaaLl
namespace Go.Proofs.Ythfenafhdigniaa.L6
set_option linter.unusedSimpArgs false
set_option linter.unusedVariables false
open Go Go.RowKit Go.Proofs.Ythfenafhdigniaa Go.Proofs.Ythfenafhdigniaa.Mm Go.Proofs.Ythfenafhdigniaa.Gf Go.Proofs.Ythfenafhdigniaa.Wr Go.Proofs.Ythfenafhdigniaa.Nb Go.Proofs.Ythfenafhdigniaa.St

/-- What Mul and MulAdd make of a list, and the error. -/
def rs (add : Bool) (c : Nat) (D l : List Nat) : List Nat × Int := if D.length = l.length then (if add then xs D (l.map (gm c)) else l.map (gm c), 0) else (D, 6)
theorem rs_length {add : Bool} {c : Nat} {D l : List Nat} : (rs add c D l).1.length = D.length := by
  unfold rs
  by_cases h : D.length = l.length
  · rw [if_pos h]; cases add
    · simp [h]
    · simp [xs_length]
  · rw [if_neg h]
theorem rs_b8 {add : Bool} {c : Nat} {D l : List Nat} (hc : c < 256) (hD : B8 D) : B8 (rs add c D l).1 := by
  unfold rs
  by_cases h : D.length = l.length
  · rw [if_pos h]; cases add
    · exact map_b8 hc
    · exact xs_b8 hD (map_b8 hc) (by rw [List.length_map]; exact h)
  · rw [if_neg h]; exact hD

/-- A family of lists, each alone in its block. -/
def Ful (ds : List Sd) (ls : List (List Nat)) (k : Nat) (G : List Ent) : Prop := ∃ b l, ds[k]? = some ⟨some ⟨b, 0, none⟩, l.length, l.length⟩ ∧ ls[k]? = some l ∧ G = [bt b l]
theorem lb_set {ls : List (List Nat)} (h : LB ls) (k : Nat) {l : List Nat} (h8 : B8 l) (hl : l.length ≤ 140737488351232) : LB (ls.set k l) := by
  intro i hi
  rw [List.length_set] at hi
  rw [List.getD_eq_getElem?_getD]
  by_cases e : k = i
  · subst e; rw [List.getElem?_set_self hi]; exact ⟨h8, hl⟩
  · rw [List.getElem?_set_ne e, ← List.getD_eq_getElem?_getD]; exact h i hi
theorem lb_get {ls : List (List Nat)} (h : LB ls) {k : Nat} {l : List Nat} (hk : ls[k]? = some l) : B8 l ∧ l.length ≤ 140737488351232 := by
  have hlt : k < ls.length := (List.getElem?_eq_some_iff.1 hk).1
  have := h k hlt
  rw [List.getD_eq_getElem?_getD, hk] at this
  exact this

section
variable {w0 w : World} {N : List Ent} {ds : List Sd} {ls : List (List Nat)} {Gs : List (List Ent)} {n to fr : Nat}
theorem Ful.rd {G : List Ent} {A : Option Addr} {m cp : Nat} (h : Ful ds ls fr G) (hs : St w0 w [] N) (hm : ∀ e ∈ G, e ∈ N) (hd : ds[fr]? = some ⟨A, m, cp⟩) : ∃ l, ls[fr]? = some l ∧ m = l.length ∧ Rd w A l := by
  obtain ⟨b, l, h1, h2, rfl⟩ := h
  rw [hd] at h1; injection h1 with h1; injection h1 with e1 e2 e3
  subst e1 e2
  exact ⟨l, h2, rfl, hs.rd (hm _ (List.mem_singleton.2 rfl))⟩

theorem fam_mul (add : Bool) (p : Addr) {c : Nat} {At Af : Option Addr} {nt nf ct cf : Nat} {D l R : List Nat} {f : Int} (hc : c < 256) (hF : Fam n (Ful ds ls) Gs) (hs : St w0 w [] (Gs.flatten ++ N)) (hto : to < n) (hfr : fr < n)
    (hdt : ds[to]? = some ⟨At, nt, ct⟩) (hdf : ds[fr]? = some ⟨Af, nf, cf⟩) (hlt : ls[to]? = some D) (hlf : ls[fr]? = some l) (hB : LB ls) (hr : rs add c D l = (R, f)) :
    Calls Try.prog (if add then 21 else 20) #[.pointer (some p), .int .u8 (c : Int), .slice At nt ct, .slice Af nf cf] w fun e w' => e = .returned (.int .i64 f) ∧ ∃ Gs', Fam n (Ful ds (ls.set to R)) Gs' ∧ St w0 w' [] (Gs'.flatten ++ N) := by
  obtain ⟨D8, DL⟩ := lb_get hB hlt
  obtain ⟨l8, LL⟩ := lb_get hB hlf
  obtain ⟨Gf, _, hPf, hmf⟩ := hF.get hfr
  obtain ⟨l', hl1, hn1, hrd⟩ := hPf.rd hs (fun e he => List.mem_append_left _ (hmf e he)) hdf
  rw [hlf] at hl1; injection hl1 with hl1; subst hl1
  have hlen : to < ls.length := (List.getElem?_eq_some_iff.1 hlt).1
  by_cases he : D.length = l.length
  · obtain ⟨G, Q, ⟨b, D', h1, h2, rfl⟩, hs', hback⟩ := hF.focus hs hto
    rw [hlt] at h2; injection h2 with h2; subst h2
    rw [hdt] at h1; injection h1 with h1; injection h1 with e1 e2 e3
    subst e1 e2 e3 hn1
    have fin : ∀ w', St w w' [bt b R] [] → ∃ Gs', Fam n (Ful ds (ls.set to R)) Gs' ∧ St w0 w' [] (Gs'.flatten ++ N) := fun w' hw => by
      have h3 := St.callN (N1 := []) (by exact hs') hw
      have hRl : R.length = D.length := by have := rs_length (add := add) (c := c) (D := D) (l := l); rw [hr] at this; exact this
      refine hback w' [bt b R] N _ h3 ⟨b, R, by rw [hdt, hRl], List.getElem?_set_self hlen, rfl⟩ (fun j G hj _ ⟨b, l, q1, q2, q3⟩ => ⟨b, l, q1, by rw [List.getElem?_set_ne (fun h => hj h.symm)]; exact q2, q3⟩)
    have hb : Bytes w b D := hs'.blk (List.mem_cons_self)
    rw [he]
    cases add with
    | true =>
      have e : R = xs D (l.map (gm c)) ∧ f = 0 := by unfold rs at hr; rw [if_pos he] at hr; injection hr with q1 q2; exact ⟨q1.symm, q2.symm⟩
      obtain ⟨rfl, rfl⟩ := e
      refine (add_st (p := p) (c := (c : Int)) (cd := l.length) (cs := cf) (by omega) (by omega) hb he rfl l8 D8 (by omega) hrd).mono fun e w' ⟨h1, h2⟩ => ⟨h1, fin w' ?_⟩
      simpa using h2
    | false =>
      have e : R = l.map (gm c) ∧ f = 0 := by unfold rs at hr; rw [if_pos he] at hr; injection hr with q1 q2; exact ⟨q1.symm, q2.symm⟩
      obtain ⟨rfl, rfl⟩ := e
      refine (mul_st (p := p) (c := (c : Int)) (cd := l.length) (cs := cf) (by omega) (by omega) hb he rfl l8 D8 (by omega) hrd).mono fun e w' ⟨h1, h2⟩ => ⟨h1, fin w' ?_⟩
      simpa using h2
  · have e : R = D ∧ f = 6 := by unfold rs at hr; rw [if_neg he] at hr; injection hr with q1 q2; exact ⟨q1.symm, q2.symm⟩
    obtain ⟨rfl, rfl⟩ := e
    have hset : ls.set to R = ls := by
      apply List.ext_getElem?
      intro j
      by_cases q : to = j
      · subst q; rw [List.getElem?_set_self hlen, hlt]
      · rw [List.getElem?_set_ne q]
    obtain ⟨G, _, ⟨b, D', h1, h2, rfl⟩, _⟩ := hF.get hto
    rw [hlt] at h2; injection h2 with h2; subst h2
    rw [hdt] at h1; injection h1 with h1; injection h1 with e1 e2 e3
    subst e1 e2 e3 hn1
    rw [hset]
    cases add with
    | true => exact (add_lens p (c : Int) _ _ _ _ _ _ w he).mono fun e w' ⟨h1, h2⟩ => ⟨h1, Gs, hF, by rw [← h2]; exact hs⟩
    | false => exact (mul_lens p (c : Int) _ _ _ _ _ _ w he).mono fun e w' ⟨h1, h2⟩ => ⟨h1, Gs, hF, by rw [← h2]; exact hs⟩

/-- The document's. -/
theorem ref_any (add : Bool) {c : Nat} {At Af : Option Addr} {nt nf ct cf : Nat} {D l R : List Nat} {f : Int} {w : World} (hc : c < 256) (hnt : D.length = nt) (hnf : l.length = nf) (hD : B8 D ∧ D.length ≤ 140737488351232) (hl : B8 l ∧ l.length ≤ 140737488351232) (h1 : Rd w At D) (h2 : Rd w Af l) (hr : rs add c D l = (R, f)) :
    Calls Try.prog (if add then 23 else 22) #[.int .u8 (c : Int), .slice At nt ct, .slice Af nf cf] w fun e w' => ∃ A' cp G, GrowB (.slice A' nt cp) R G ∧ e = .returned (.tuple #[.slice A' nt cp, .int .i64 f]) ∧ St w w' [] G := by
  subst hnt hnf
  have hRl : R.length = D.length := by have := rs_length (add := add) (c := c) (D := D) (l := l); rw [hr] at this; exact this
  have fin : ∀ e w', RefR w R f e w' → ∃ A' cp G, GrowB (.slice A' D.length cp) R G ∧ e = .returned (.tuple #[.slice A' D.length cp, .int .i64 f]) ∧ St w w' [] G := fun e w' ⟨A', cp, m, G, hm, he, hs, hg⟩ => by
    rw [hRl] at hm; subst hm
    exact ⟨A', cp, G, hg, he, hs⟩
  by_cases he : D.length = l.length
  · have e : R = (if add then xs D (l.map (gm c)) else l.map (gm c)) ∧ f = 0 := by unfold rs at hr; rw [if_pos he] at hr; injection hr with q1 q2; exact ⟨q1.symm, q2.symm⟩
    obtain ⟨rfl, rfl⟩ := e
    cases add with
    | true => rw [← he]; exact (ref_add c _ _ D.length ct cf D l w hc rfl he.symm hD.2 h1 h2 hD.1 hl.1).mono fin
    | false => rw [← he]; exact (ref_mul c _ _ D.length ct cf D l w hc he.symm hD.2 h2 hl.1).mono fin
  · have e : R = D ∧ f = 6 := by unfold rs at hr; rw [if_neg he] at hr; injection hr with q1 q2; exact ⟨q1.symm, q2.symm⟩
    obtain ⟨rfl, rfl⟩ := e
    cases add with
    | true => exact (ref_add_lens (c : Int) _ _ _ _ ct cf R w rfl hD.2 h1 hD.1 he).mono fin
    | false => exact (ref_mul_lens (c : Int) _ _ _ _ ct cf R w rfl hD.2 h1 hD.1 he).mono fin
end

/-- The list of lists that the document keeps. -/
def Wnt (ds : List Sd) (ls : List (List Nat)) (G : List Ent) : Prop := ∀ k d, ds[k]? = some d → d.n = (ls.getD k []).length ∧ Hold d.A ((ls.getD k []).map e8) G
theorem Wnt.nil (ls : List (List Nat)) : Wnt [] ls [] := fun k d h => by simp at h
theorem Wnt.snoc {ds : List Sd} {ls : List (List Nat)} {G G' : List Ent} {d : Sd} (h : Wnt ds ls G) (hn : d.n = (ls.getD ds.length []).length) (hh : Hold d.A ((ls.getD ds.length []).map e8) G') : Wnt (ds ++ [d]) ls (G' ++ G) := by
  intro k d' hd
  by_cases hk : k < ds.length
  · rw [List.getElem?_append_left hk] at hd
    exact ⟨(h k d' hd).1, (h k d' hd).2.mono fun e he => List.mem_append_right _ he⟩
  · rw [List.getElem?_append_right (by omega)] at hd
    have h0 : k - ds.length = 0 := by
      rcases Nat.eq_zero_or_pos (k - ds.length) with h0 | h0
      · exact h0
      · rw [List.getElem?_eq_none (by simp; omega)] at hd; cases hd
    rw [h0] at hd
    simp at hd
    subst hd
    have : k = ds.length := by omega
    subst this
    exact ⟨hn, hh.mono fun e he => List.mem_append_left _ he⟩
theorem Wnt.set {ds : List Sd} {ls : List (List Nat)} {G G' : List Ent} {d : Sd} {to : Nat} {R : List Nat} (h : Wnt ds ls G) (hto : to < ds.length) (htl : to < ls.length) (hn : d.n = R.length) (hh : Hold d.A (R.map e8) G') : Wnt (ds.set to d) (ls.set to R) (G' ++ G) := by
  intro k d' hd
  by_cases e : to = k
  · subst e
    rw [List.getElem?_set_self hto] at hd
    injection hd with hd; subst hd
    rw [List.getD_eq_getElem?_getD, List.getElem?_set_self htl]
    exact ⟨hn, hh.mono fun e he => List.mem_append_left _ he⟩
  · rw [List.getElem?_set_ne e] at hd
    rw [List.getD_eq_getElem?_getD, List.getElem?_set_ne e, ← List.getD_eq_getElem?_getD]
    exact ⟨(h k d' hd).1, (h k d' hd).2.mono fun e he => List.mem_append_right _ he⟩
theorem hold_rd {w0 w : World} {W N : List Ent} {A : Option Addr} {l : List Nat} {G : List Ent} (h : Hold A (l.map e8) G) (hs : St w0 w W N) (hm : ∀ e ∈ G, e ∈ N) : Rd w A l := fun h0 => by
  obtain ⟨b, o, e, k⟩ := (h.rd hs hm) h0
  exact ⟨b, o, e, fun j hj => k j _ (by simp [hj])⟩

/-- n modulo size, from 0 on. -/
def plc (m : Int) (n : Nat) : Nat := (m % (n : Int)).toNat
theorem plc_lt {m : Int} {n : Nat} (hn : 0 < n) : plc m n < n := by
  have h1 := Int.emod_lt_of_pos m (b := (n : Int)) (by omega)
  have h2 := Int.emod_nonneg m (b := (n : Int)) (by omega)
  unfold plc; omega
set_option maxRecDepth 100000 in
theorem place_st (m : Int) (n : Nat) (w : World) (hn : 0 < n) (hb : n ≤ 4611686018427387904) : Calls Try.prog 24 #[.int .i64 m, .int .i64 (n : Int)] w fun e w' => e = .returned (.int .i64 ((plc m n : Nat) : Int)) ∧ St w w' [] [] := by
  have h1 := Int.emod_lt_of_pos m (b := (n : Int)) (by omega)
  have h2 := Int.emod_nonneg m (b := (n : Int)) (by omega)
  have e0 : ((plc m n : Nat) : Int) = m % (n : Int) := by unfold plc; omega
  have hn0 : ¬ (n : Int) = 0 := by omega
  have hn1 : ¬ n = 0 := by omega
  have h3 := Int.tmod_lt_of_pos m (b := (n : Int)) (by omega)
  have h4 := Int.lt_tmod_of_pos m (b := (n : Int)) (by omega)
  have h5 : Int.tmod m n = m % (n : Int) ∨ (Int.tmod m n < 0 ∧ Int.tmod m n + n = m % (n : Int)) := by
    rw [Int.tmod_eq_emod]
    split
    · exact .inl (by simp)
    · rename_i hh
      rw [Int.natAbs_natCast]
      exact .inr ⟨by omega, by omega⟩
  rw [e0]
  clear e0
  obtain ⟨t, ht⟩ : ∃ t, Int.tmod m n = t := ⟨_, rfl⟩
  obtain ⟨r, hr⟩ : ∃ r, m % (n : Int) = r := ⟨_, rfl⟩
  rw [ht] at h3 h4 h5
  rw [hr] at h1 h2 h5 ⊢
  rcases h5 with h5 | ⟨h5, h6⟩
  · have h7 : ¬ t < 0 := by omega
    have h8 : 0 ≤ t := by omega
    subst h5
    go_enter Try.func24, Try.ntmps24
    go_wp2
    go_ret
    exact ⟨rfl, St.start w⟩
  · have h9 : IntKind.i64.wrap (t + (n : Int)) = r := by rw [h6]; exact Bt.wrap_i64 _ (by omega) (by omega)
    go_enter Try.func24, Try.ntmps24
    go_wp2
    go_ret
    exact ⟨rfl, St.start w⟩

end Go.Proofs.Ythfenafhdigniaa.L6
