/- Layer 9: the kinds of the laws' arguments. -/
import Derived.Test.YtdbfkjhdnbmpeaaKq
namespace Go.Proofs.Ytdbfkjhdnbmpeaa.Sk
set_option linter.unusedSimpArgs false
set_option linter.unusedVariables false
open Go Go.RowKit Go.Proofs.Ytdbfkjhdnbmpeaa Go.Proofs.Ytdbfkjhdnbmpeaa.Mm Go.Proofs.Ytdbfkjhdnbmpeaa.Gf Go.Proofs.Ytdbfkjhdnbmpeaa.Wr Go.Proofs.Ytdbfkjhdnbmpeaa.Nb Go.Proofs.Ytdbfkjhdnbmpeaa.St

abbrev kBs : Kk.K (List Nat) := Kk.kSlice Kk.kByte 1
abbrev kLs : Kk.K (List (List Nat)) := Kk.kSlice kBs 24
theorem opens_bs : Kk.Opens Try.prog 39 kBs := Kk.opens_slice Try.underlying39 (by kernel_rfl) (by decide) (by kernel_rfl) (Kk.opens_byte Try.underlying5 (by kernel_rfl))
theorem opens_ls : Kk.Opens Try.prog 22 kLs := Kk.opens_slice Try.underlying22 (by kernel_rfl) (by decide) (by kernel_rfl) opens_bs
theorem okWide_str {P : Program} {w : World} {r : Reach} {base : Nat} {t : TypeId} {fs : Array Field} {v : Value} (ht : P.underlying t = some (.struct fs)) (h : Value.okWide P w r base t v) : ∃ cs, v = .agg cs := by
  simp only [Value.okWide, ht] at h
  obtain ⟨cs, h1, _⟩ := h
  exact ⟨cs, h1⟩
theorem open_bs9 {B : Nat} {w : World} {cs : List Value} {l : List Nat} (h : kBs.ok B w cs l) : ∃ A c, cs = [.slice A l.length c] ∧ l.length ≤ 140737488351232 ∧ l.length ≤ c ∧ Rd w A l ∧ B8 l := by
  obtain ⟨A, c, e, hh⟩ := h
  obtain ⟨_, g2, g3, g4, g5, _⟩ := open_bytes (B := B) (l := l) (n := l.length) (c := c) (A := A) (w := w) ⟨A, c, rfl, hh⟩
  exact ⟨A, c, e, g2, g3, g4, g5⟩
theorem open_ls9 {B : Nat} {w : World} {cs : List Value} {L : List (List Nat)} (h : kLs.ok B w cs L) : ∃ A c, cs = [.slice A L.length c] ∧ RdL w [] A L ∧ Fit L ∧ B8L L := by
  obtain ⟨A, c, e, hh⟩ := h
  obtain ⟨_, g2, g3, g4⟩ := open_lists9 (B := B) (L := L) (n := L.length) (c := c) (A := A) (w := w) ⟨A, c, rfl, hh⟩
  exact ⟨A, c, e, g2, g3, g4⟩
theorem arr_of {cs : Array Value} {l : List Value} (h : cs.toList = l) : cs = l.toArray := by rw [← h]

/-- Dots. -/
abbrev kDots : Kk.K (List Nat × List Nat × List (List Nat) × Nat × Unit) := Kk.kPair kBs (Kk.kPair kBs (Kk.kPair kLs (Kk.kPair Kk.kByte Kk.kUnit)))
theorem opens_dots : Kk.Opens Try.prog 60 kDots :=
  Kk.opens_struct Try.underlying60 (by kernel_rfl) (Kk.opensFs_cons rfl opens_bs (Kk.opensFs_cons rfl opens_bs (Kk.opensFs_cons rfl opens_ls (Kk.opensFs_cons rfl (Kk.opens_byte Try.underlying5 (by kernel_rfl)) Kk.opensFs_nil))))

/-- Sums. -/
abbrev kSums : Kk.K (List (List Nat) × List (List Nat) × List (List Nat) × Int × Int × Int × Unit) := Kk.kPair kLs (Kk.kPair kLs (Kk.kPair kLs (Kk.kPair (Kk.kInt .i64) (Kk.kPair (Kk.kInt .i64) (Kk.kPair (Kk.kInt .i64) Kk.kUnit)))))
theorem opens_sums : Kk.Opens Try.prog 24 kSums :=
  Kk.opens_struct Try.underlying24 (by kernel_rfl) (Kk.opensFs_cons rfl opens_ls (Kk.opensFs_cons rfl opens_ls (Kk.opensFs_cons rfl opens_ls (Kk.opensFs_cons rfl (Kk.opens_int Try.underlying3 (by kernel_rfl)) (Kk.opensFs_cons rfl (Kk.opens_int Try.underlying3 (by kernel_rfl)) (Kk.opensFs_cons rfl (Kk.opens_int Try.underlying3 (by kernel_rfl)) Kk.opensFs_nil))))))

/-- Turn. -/
abbrev kTurn : Kk.K ((List (List Nat) × List (List Nat) × List (List Nat) × Int × Int × Int × Unit) × Int × Int × Nat × Unit) := Kk.kPair kSums (Kk.kPair (Kk.kInt .i64) (Kk.kPair (Kk.kInt .i64) (Kk.kPair Kk.kByte Kk.kUnit)))
theorem opens_turn : Kk.Opens Try.prog 26 kTurn :=
  Kk.opens_struct Try.underlying26 (by kernel_rfl) (Kk.opensFs_cons rfl opens_sums (Kk.opensFs_cons rfl (Kk.opens_int Try.underlying3 (by kernel_rfl)) (Kk.opensFs_cons rfl (Kk.opens_int Try.underlying3 (by kernel_rfl)) (Kk.opensFs_cons rfl (Kk.opens_byte Try.underlying5 (by kernel_rfl)) Kk.opensFs_nil))))

/-- Call. -/
abbrev TCall : Type := Int × Nat × List Nat × List (List Nat) × List (List Nat) × List (List Nat) × List Nat × List Nat × Int × Int × Unit
abbrev kCall : Kk.K TCall := Kk.kPair (Kk.kInt .i64) (Kk.kPair Kk.kByte (Kk.kPair kBs (Kk.kPair kLs (Kk.kPair kLs (Kk.kPair kLs (Kk.kPair kBs (Kk.kPair kBs (Kk.kPair (Kk.kInt .i64) (Kk.kPair (Kk.kInt .i64) Kk.kUnit)))))))))
theorem opens_call : Kk.Opens Try.prog 42 kCall :=
  Kk.opens_struct Try.underlying42 (by kernel_rfl) (Kk.opensFs_cons rfl (Kk.opens_int Try.underlying3 (by kernel_rfl)) (Kk.opensFs_cons rfl (Kk.opens_byte Try.underlying5 (by kernel_rfl)) (Kk.opensFs_cons rfl opens_bs (Kk.opensFs_cons rfl opens_ls (Kk.opensFs_cons rfl opens_ls (Kk.opensFs_cons rfl opens_ls (Kk.opensFs_cons rfl opens_bs (Kk.opensFs_cons rfl opens_bs (Kk.opensFs_cons rfl (Kk.opens_int Try.underlying3 (by kernel_rfl)) (Kk.opensFs_cons rfl (Kk.opens_int Try.underlying3 (by kernel_rfl)) Kk.opensFs_nil))))))))))
/-- A call's cells. -/
theorem open_call {B : Nat} {w : World} {cs : List Value} {x : TCall} (h : kCall.ok B w cs x) : ∃ (k : Int) (c : Nat) (row dst src : List Nat) (rows srcs dsts : List (List Nat)) (f t : Int) (A1 A2 A3 A4 A5 A6 : Option Addr) (c1 c2 c3 c4 c5 c6 : Nat),
    cs = [.int .i64 k, .int .u8 (c : Int), .slice A1 row.length c1, .slice A2 rows.length c2, .slice A3 srcs.length c3, .slice A4 dsts.length c4, .slice A5 dst.length c5, .slice A6 src.length c6, .int .i64 f, .int .i64 t] ∧
    x = (k, c, row, rows, srcs, dsts, dst, src, f, t, ()) ∧ c < 256 ∧ (row.length ≤ 140737488351232 ∧ Rd w A1 row ∧ B8 row) ∧ (RdL w [] A2 rows ∧ Fit rows ∧ B8L rows) ∧ (RdL w [] A3 srcs ∧ Fit srcs ∧ B8L srcs) ∧ (RdL w [] A4 dsts ∧ Fit dsts ∧ B8L dsts) ∧ (dst.length ≤ 140737488351232 ∧ Rd w A5 dst ∧ B8 dst) ∧ (src.length ≤ 140737488351232 ∧ Rd w A6 src ∧ B8 src) ∧ (Lit.int .i64 k).wf = true ∧ (Lit.int .i64 f).wf = true ∧ (Lit.int .i64 t).wf = true := by
  obtain ⟨k, c, row, rows, srcs, dsts, dst, src, f, t, _⟩ := x
  obtain ⟨d1, _, rfl, _, ⟨rfl, w1⟩, d2, _, rfl, _, ⟨rfl, hc⟩, d3, _, rfl, _, h3, d4, _, rfl, _, h4, d5, _, rfl, _, h5, d6, _, rfl, _, h6, d7, _, rfl, _, h7, d8, _, rfl, _, h8, d9, _, rfl, _, ⟨rfl, w9⟩, d10, _, rfl, _, ⟨rfl, w10⟩, h11⟩ := h
  have h11' : _ = [] := h11
  subst h11'
  obtain ⟨A1, c1, rfl, g1, _, g2, g3⟩ := open_bs9 h3
  obtain ⟨A2, c2, rfl, g4⟩ := open_ls9 h4
  obtain ⟨A3, c3, rfl, g5⟩ := open_ls9 h5
  obtain ⟨A4, c4, rfl, g6⟩ := open_ls9 h6
  obtain ⟨A5, c5, rfl, g7, _, g8, g9⟩ := open_bs9 h7
  obtain ⟨A6, c6, rfl, g10, _, g11, g12⟩ := open_bs9 h8
  exact ⟨k, c, row, dst, src, rows, srcs, dsts, f, t, A1, A2, A3, A4, A5, A6, c1, c2, c3, c4, c5, c6, rfl, rfl, hc, ⟨g1, g2, g3⟩, g4, g5, g6, ⟨g7, g8, g9⟩, ⟨g10, g11, g12⟩, w1, w9, w10⟩

/-- Step. -/
abbrev TStep : Type := Int × Nat × Int × Int × List Nat × (Int × Int × Unit) × Unit
abbrev kSpan : Kk.K (Int × Int × Unit) := Kk.kPair (Kk.kInt .i64) (Kk.kPair (Kk.kInt .i64) Kk.kUnit)
abbrev kStep : Kk.K TStep := Kk.kPair (Kk.kInt .i64) (Kk.kPair Kk.kByte (Kk.kPair (Kk.kInt .i64) (Kk.kPair (Kk.kInt .i64) (Kk.kPair kBs (Kk.kPair kSpan Kk.kUnit)))))
theorem opens_span : Kk.Opens Try.prog 32 kSpan :=
  Kk.opens_struct Try.underlying32 (by kernel_rfl) (Kk.opensFs_cons rfl (Kk.opens_int Try.underlying3 (by kernel_rfl)) (Kk.opensFs_cons rfl (Kk.opens_int Try.underlying3 (by kernel_rfl)) Kk.opensFs_nil))
theorem opens_step : Kk.Opens Try.prog 55 kStep :=
  Kk.opens_struct Try.underlying55 (by kernel_rfl) (Kk.opensFs_cons rfl (Kk.opens_int Try.underlying3 (by kernel_rfl)) (Kk.opensFs_cons rfl (Kk.opens_byte Try.underlying5 (by kernel_rfl)) (Kk.opensFs_cons rfl (Kk.opens_int Try.underlying3 (by kernel_rfl)) (Kk.opensFs_cons rfl (Kk.opens_int Try.underlying3 (by kernel_rfl)) (Kk.opensFs_cons rfl opens_bs (Kk.opensFs_cons rfl opens_span Kk.opensFs_nil))))))

end Go.Proofs.Ytdbfkjhdnbmpeaa.Sk
