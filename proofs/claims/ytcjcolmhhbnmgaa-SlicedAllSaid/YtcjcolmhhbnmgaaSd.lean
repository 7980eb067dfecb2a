/- Layer 7: one call of a script; scripts; the laws SlicedSlices, SlicedWords, SlicedBlocks, SlicedAll. -/
import Derived.Test.YtcjcolmhhbnmgaaSb
import Derived.Deep.RegionHeld3
namespace Go.Proofs.Ytcjcolmhhbnmgaa.Sl
set_option linter.unusedSimpArgs false
set_option linter.unusedVariables false
open Go Go.RowKit Go.Proofs.Ytcjcolmhhbnmgaa Go.Proofs.Ytcjcolmhhbnmgaa.Mm Go.Proofs.Ytcjcolmhhbnmgaa.Gf Go.Proofs.Ytcjcolmhhbnmgaa.Wr Go.Proofs.Ytcjcolmhhbnmgaa.St Go.Proofs.Ytcjcolmhhbnmgaa.Wd

/-- A step of a script. -/
structure Op7 where
  kind : Int
  c : Nat
  A1 : Option Addr
  n1 : Nat
  c1 : Nat
  D : List Nat
  A2 : Option Addr
  n2 : Nat
  c2 : Nat
  l : List Nat
  W : Nat
  A3 : Option Addr
  n3 : Nat
  c3 : Nat
  ws : List Nat
  sf : Bool
def Op7.cells (o : Op7) : Array Value := #[.int .i64 o.kind, .int .u8 o.c, .slice o.A1 o.n1 o.c1, .slice o.A2 o.n2 o.c2, .int .u64 o.W, .slice o.A3 o.n3 o.c3, .bool o.sf]
structure Op7.Ok (o : Op7) (w : World) : Prop where
  hc : o.c < 256
  hD : o.D.length = o.n1
  hl : o.l.length = o.n2
  hw : o.ws.length = o.n3
  hn1 : o.n1 ≤ 140737488351232
  hn2 : o.n2 ≤ 140737488351232
  hn3 : o.n3 * 8 ≤ 140737488351232
  r1 : Rd w o.A1 o.D
  r2 : Rd w o.A2 o.l
  r3 : RdV e64 w o.A3 o.ws
  d8 : B8 o.D
  l8 : B8 o.l
  w64 : W64 o.ws
  hW : o.W < 18446744073709551616
theorem Op7.Ok.ext {o : Op7} {w0 w : World} {N : List Ent} (h : o.Ok w0) (s : St w0 w [] N) : o.Ok w := ⟨h.hc, h.hD, h.hl, h.hw, h.hn1, h.hn2, h.hn3, s.ext h.r1, s.ext h.r2, s.extV h.r3, h.d8, h.l8, h.w64, h.hW⟩

theorem slices_at (p : Addr) (kind : Int) (c : Nat) (A1 : Option Addr) (n1 c1 : Nat) (D : List Nat) (A2 : Option Addr) (n2 c2 : Nat) (l : List Nat) (W : Nat) (A3 : Option Addr) (n3 c3 : Nat) (ws : List Nat) (sf : Bool) (w : World) (h : (⟨kind, c, A1, n1, c1, D, A2, n2, c2, l, W, A3, n3, c3, ws, sf⟩ : Op7).Ok w) :
    Calls Try.prog 44 #[.pointer (some p), .agg #[.int .i64 kind, .int .u8 c, .slice A1 n1 c1, .slice A2 n2 c2, .int .u64 W, .slice A3 n3 c3, .bool sf]] w fun e w' => e = .returned (.bool true) ∧ St w w' [] [] := by
  obtain ⟨hc, hD, hl, _, hn1, hn2, _, r1, r2, _, d8, l8, _, _⟩ := h
  simp only at hc hD hl hn1 hn2 r1 r2 d8 l8
  cases sf with
  | true =>
    by_cases hk : kind = 2
    · subst hk; exact sl_add_one_eq p 2 c A1 n1 c1 D A2 n2 c2 l W A3 n3 c3 w hc hD hl hn1 hn2 r1 r2 d8 l8
    · exact sl_mul_one_eq p kind c A1 n1 c1 D A2 n2 c2 l W A3 n3 c3 w hc hD hl hn1 hn2 r1 r2 d8 l8 hk
  | false =>
    by_cases he : n1 = n2
    · subst he
      by_cases hk : kind = 2
      · subst hk; exact sl_add_two_eq p 2 c A1 n1 c1 D A2 c2 l W A3 n3 c3 w hc hD hl hn1 hn2 r1 r2 d8 l8
      · exact sl_mul_two_eq p kind c A1 n1 c1 D A2 c2 l W A3 n3 c3 w hc hD hl hn1 hn2 r1 r2 d8 l8 hk
    · by_cases hk : kind = 2
      · subst hk; exact sl_add_two_ne p 2 c A1 n1 c1 D A2 n2 c2 l W A3 n3 c3 w hc hD hl hn1 hn2 r1 r2 d8 l8 he
      · exact sl_mul_two_ne p kind c A1 n1 c1 D A2 n2 c2 l W A3 n3 c3 w hc hD hl hn1 hn2 r1 r2 d8 l8 hk he

theorem blocks_at (kind : Int) (c : Nat) (A1 : Option Addr) (n1 c1 : Nat) (D : List Nat) (A2 : Option Addr) (n2 c2 : Nat) (l : List Nat) (W : Nat) (A3 : Option Addr) (n3 c3 : Nat) (ws : List Nat) (sf : Bool) (w : World) (h : (⟨kind, c, A1, n1, c1, D, A2, n2, c2, l, W, A3, n3, c3, ws, sf⟩ : Op7).Ok w) :
    Calls Try.prog 46 #[.agg #[.int .i64 kind, .int .u8 c, .slice A1 n1 c1, .slice A2 n2 c2, .int .u64 W, .slice A3 n3 c3, .bool sf]] w fun e w' => e = .returned (.bool true) ∧ St w w' [] [] := by
  obtain ⟨hc, hD, hl, hw, hn1, hn2, hn3, r1, r2, r3, d8, l8, w64, _⟩ := h
  simp only at hl hn2 r2 l8 hw hn3 r3 w64
  by_cases hk : kind = 5
  · subst hk; exact bl_planes c _ A2 n2 c2 l W _ sf w hl hn2 r2 l8
  · exact bl_block kind c _ _ W A3 n3 c3 ws sf w hk hw hn3 r3 w64

set_option maxRecDepth 100000 in
set_option maxHeartbeats 4000000 in
theorem plays_at (p : Addr) (kind : Int) (c : Nat) (A1 : Option Addr) (n1 c1 : Nat) (D : List Nat) (A2 : Option Addr) (n2 c2 : Nat) (l : List Nat) (W : Nat) (A3 : Option Addr) (n3 c3 : Nat) (ws : List Nat) (sf : Bool) (w : World) (h : (⟨kind, c, A1, n1, c1, D, A2, n2, c2, l, W, A3, n3, c3, ws, sf⟩ : Op7).Ok w) :
    Calls Try.prog 40 #[.pointer (some p), .agg #[.int .i64 kind, .int .u8 c, .slice A1 n1 c1, .slice A2 n2 c2, .int .u64 W, .slice A3 n3 c3, .bool sf]] w fun e w' => e = .returned (.bool true) ∧ St w w' [] [] := by
  have HO := Lib.hid h
  have hc := h.hc
  have hW := h.hW
  simp only at hc hW
  clear h
  have SA := Lib.hid (St.start w)
  by_cases k12 : kind = 1 ∨ kind = 2
  · have K12 := Lib.hid k12
    rcases k12 with rfl | rfl
    all_goals
      go_enter Try.func40, Try.ntmps40
      go_wp2_with ((with_reducible refine at_slot (N := 3) rfl ?_); refine box_law rfl 72 _ _ rfl rfl SA.out ?_; intro ob w0 hs; have SB := Lib.hid hs; clear hs SA; have oc0 := (SB.out.blk mem0).cell (i := 0) rfl; have oc1 := (SB.out.blk mem0).cell (i := 1) rfl; have oc2 := (SB.out.blk mem0).cell (i := 2) rfl; have oc3 := (SB.out.blk mem0).cell (i := 3) rfl; have oc4 := (SB.out.blk mem0).cell (i := 4) rfl; have oc5 := (SB.out.blk mem0).cell (i := 5) rfl; have oc6 := (SB.out.blk mem0).cell (i := 6) rfl)
      go_wp2_with fail
      refine (slices_at p _ c A1 n1 c1 D A2 n2 c2 l W A3 n3 c3 ws sf _ (HO.out.ext SB.out)).mono ?_
      rintro e w1 ⟨rfl, hh⟩
      have h1 := SB.out.call hh; clear hh SB
      try simp only [List.nil_append, List.cons_append, List.append_eq, Int.toNat_natCast] at h1
      have S1 := Lib.hid h1; clear h1
      go_wp2_with fail
      go_ret
      exact ⟨rfl, S1.out.nil⟩
  · have b1 : (kind == 1) = false := beq_eq_false_iff_ne.2 (fun e => k12 (.inl e))
    have b2 : (kind == 2) = false := beq_eq_false_iff_ne.2 (fun e => k12 (.inr e))
    clear k12
    by_cases k3 : kind = 3
    · subst k3
      clear b1 b2
      go_enter Try.func40, Try.ntmps40
      go_wp2_with ((with_reducible refine at_slot (N := 3) rfl ?_); refine box_law rfl 72 _ _ rfl rfl SA.out ?_; intro ob w0 hs; have SB := Lib.hid hs; clear hs SA; have oc0 := (SB.out.blk mem0).cell (i := 0) rfl)
      have oc1 := (SB.out.blk mem0).cell (i := 1) rfl
      have oc4 := (SB.out.blk mem0).cell (i := 4) rfl
      have HC : Hid (∀ w', St w0 w' [] [] → w'.cell? ⟨ob, 1, none⟩ = some (.int .u8 (c : Int)) ∧ w'.cell? ⟨ob, 4, none⟩ = some (.int .u64 (W : Int))) := Lib.hid (fun w' hb => by
        refine ⟨?_, ?_⟩
        · rw [hb.below.cell (p := ⟨ob, 1, none⟩) (cell_lt oc1)]; exact oc1
        · rw [hb.below.cell (p := ⟨ob, 4, none⟩) (cell_lt oc4)]; exact oc4)
      have S0 := Lib.hid (St.start w0)
      have c0 : (0 : Int) ≤ (c : Int) := by omega
      have c1 : (c : Int) < 256 := by omega
      have W0 : (0 : Int) ≤ (W : Int) := by omega
      have W1 : (W : Int) < 18446744073709551616 := by omega
      obtain ⟨Z, HZ⟩ : ∃ Z : Int, Hid (((W8 ((b8 W).map (gm c)) : Nat) : Int) = Z) := ⟨_, Lib.hid rfl⟩
      have WC : Hid (∀ W' : World, Calls Try.prog 16 #[.int .u8 (c : Int), .int .u64 (W : Int)] W' fun e w' => e = .returned (.int .u64 Z) ∧ St W' w' [] []) := Lib.hid (fun W' => by
        have := word_calls (c : Int) (W : Int) W' c0 c1 W0 W1
        rw [Int.toNat_natCast, Int.toNat_natCast, HZ.out] at this; exact this)
      have RC : Hid (∀ W' : World, Calls Try.prog 45 #[.int .u8 (c : Int), .int .u64 (W : Int)] W' fun e w' => e = .returned (.int .u64 Z) ∧ W' = w') := Lib.hid (fun W' => by
        have := rword_calls c W W' hc hW
        rw [HZ.out] at this; exact this)
      go_wp2_with fail
      have S1 := Lib.hid S0.out.drew; clear S0
      go_region_held3 (fun w' => w'.cell? ⟨ob, 1, none⟩ = some (.int .u8 (c : Int)) ∧ w'.cell? ⟨ob, 4, none⟩ = some (.int .u64 (W : Int))) (first | go_keep | exact HC.out _ S2.out) (first
        | (go_at_call 16; refine (WC.out _).mono ?_; rintro e w2 ⟨rfl, hh⟩; have h2 := S1.out.call hh; clear hh S1; (try simp only [List.nil_append, List.cons_append, List.append_eq, Int.toNat_natCast] at h2); have S2 := Lib.hid h2; clear h2)
        | (go_at_call 45; refine (RC.out _).mono ?_; rintro e _ ⟨rfl, rfl⟩))
      go_wp2_with fail
      go_ret
      exact ⟨rfl, (SB.out.call S2.out).nil⟩
    · have b3 : (kind == 3) = false := beq_eq_false_iff_ne.2 k3
      clear k3
      by_cases k4 : kind = 4
      · subst k4
        clear b1 b2 b3
        go_enter Try.func40, Try.ntmps40
        go_wp2_with ((with_reducible refine at_slot (N := 3) rfl ?_); refine box_law rfl 72 _ _ rfl rfl SA.out ?_; intro ob w0 hs; have SB := Lib.hid hs; clear hs SA; have oc0 := (SB.out.blk mem0).cell (i := 0) rfl)
        have oc1 := (SB.out.blk mem0).cell (i := 1) rfl
        have HC : Hid (∀ w', St w0 w' [] [] → w'.cell? ⟨ob, 1, none⟩ = some (.int .u8 (c : Int))) := Lib.hid (fun w' hb => by rw [hb.below.cell (p := ⟨ob, 1, none⟩) (cell_lt oc1)]; exact oc1)
        have S0 := Lib.hid (St.start w0)
        have c0 : (0 : Int) ≤ (c : Int) := by omega
        have c1 : (c : Int) < 256 := by omega
        have WC : Hid (∀ W' : World, Calls Try.prog 24 #[.int .u8 (c : Int)] W' fun e w' => ∃ b D, D.take 8 = cols c ∧ e = .returned (.slice (some ⟨b, 0, none⟩) 8 D.length) ∧ St W' w' [] [bt b D]) := Lib.hid (fun W' => (Columns_st (c : Int) W' c0 c1).mono fun e w' ⟨b, D, he, _, ht, hs⟩ => ⟨b, D, ht, he, hs⟩)
        go_wp2_with fail
        have S1 := Lib.hid S0.out.drew; clear S0
        go_region_held3 (fun w' => w'.cell? ⟨ob, 1, none⟩ = some (.int .u8 (c : Int))) (first | go_keep | exact HC.out _ S2.out.nil | exact HC.out _ S3.out.nil | exact HC.out _ S4.out.nil) (first
          | (go_at_call 24; refine (WC.out _).mono ?_; rintro e w2 ⟨b1, D1, hD1, rfl, hh⟩; have h2 := S1.out.call hh; clear hh S1; (try simp only [List.nil_append, List.cons_append, List.append_eq, Int.toNat_natCast] at h2); have HD1 := Lib.hid hD1; clear hD1; have S2 := Lib.hid h2; clear h2)
          | (go_at_call 27; refine (rcolumns_st c _ hc).mono ?_; rintro e w3 ⟨b2, rfl, hh⟩; have h3 := S2.out.call hh; clear hh S2; (try simp only [List.nil_append, List.cons_append, List.append_eq, Int.toNat_natCast] at h3); have S3 := Lib.hid h3; clear h3)
          | (go_at_call 15; refine (same_st (cols_length c) (by decide) (S3.out.rdTake mem1 HD1.out) (S3.out.rd mem0)).mono ?_; rintro e w4 ⟨rfl, hh⟩; have h4 := S3.out.call hh; clear hh S3; (try simp only [List.nil_append, List.cons_append, List.append_eq, Int.toNat_natCast] at h4); have S4 := Lib.hid h4; clear h4))
        all_goals (
          go_wp2_with fail
          go_ret
          exact ⟨rfl, (SB.out.call S4.out).nil⟩)
      · have b4 : (kind == 4) = false := beq_eq_false_iff_ne.2 k4
        clear k4
        by_cases k56 : kind = 5 ∨ kind = 6
        · rcases k56 with rfl | rfl
          all_goals
            clear b1 b2 b3 b4
            go_enter Try.func40, Try.ntmps40
            go_wp2_with ((with_reducible refine at_slot (N := 3) rfl ?_); refine box_law rfl 72 _ _ rfl rfl SA.out ?_; intro ob w0 hs; have SB := Lib.hid hs; clear hs SA; have oc0 := (SB.out.blk mem0).cell (i := 0) rfl; have oc1 := (SB.out.blk mem0).cell (i := 1) rfl; have oc2 := (SB.out.blk mem0).cell (i := 2) rfl; have oc3 := (SB.out.blk mem0).cell (i := 3) rfl; have oc4 := (SB.out.blk mem0).cell (i := 4) rfl; have oc5 := (SB.out.blk mem0).cell (i := 5) rfl; have oc6 := (SB.out.blk mem0).cell (i := 6) rfl)
            go_wp2_with fail
            refine (blocks_at _ c A1 n1 c1 D A2 n2 c2 l W A3 n3 c3 ws sf _ (HO.out.ext SB.out)).mono ?_
            rintro e w5 ⟨rfl, hh⟩
            have h5 := SB.out.call hh; clear hh SB
            try simp only [List.nil_append, List.cons_append, List.append_eq, Int.toNat_natCast] at h5
            have S5 := Lib.hid h5; clear h5
            go_wp2_with fail
            go_ret
            exact ⟨rfl, S5.out.nil⟩
        · have b5 : (kind == 5) = false := beq_eq_false_iff_ne.2 (fun e => k56 (.inl e))
          have b6 : (kind == 6) = false := beq_eq_false_iff_ne.2 (fun e => k56 (.inr e))
          clear k56
          go_enter Try.func40, Try.ntmps40
          go_wp2_with ((with_reducible refine at_slot (N := 3) rfl ?_); refine box_law rfl 72 _ _ rfl rfl SA.out ?_; intro ob w0 hs; have SB := Lib.hid hs; clear hs SA; have oc0 := (SB.out.blk mem0).cell (i := 0) rfl; have oc1 := (SB.out.blk mem0).cell (i := 1) rfl; have oc2 := (SB.out.blk mem0).cell (i := 2) rfl; have oc3 := (SB.out.blk mem0).cell (i := 3) rfl; have oc4 := (SB.out.blk mem0).cell (i := 4) rfl; have oc5 := (SB.out.blk mem0).cell (i := 5) rfl; have oc6 := (SB.out.blk mem0).cell (i := 6) rfl)
          go_wp2_with fail
          go_ret
          exact ⟨rfl, SB.out.nil⟩

abbrev T7 := Int × Nat × List Nat × List Nat × Int × List Int × Bool × Unit
abbrev kSl : Kk.K (List Nat) := Kk.kSlice Kk.kByte 1
abbrev kOp : Kk.K T7 := Kk.kPair (Kk.kInt .i64) (Kk.kPair Kk.kByte (Kk.kPair kSl (Kk.kPair kSl (Kk.kPair (Kk.kInt .u64) (Kk.kPair (Kk.kSlice (Kk.kInt .u64) 8) (Kk.kPair Kk.kBool Kk.kUnit))))))
theorem rdV_of {k : IntKind} {w : World} {A : Option Addr} {l : List Nat} (h : RdN k w A l) : RdV (fun (x : Nat) => Value.int k (x : Int)) w A l := by
  intro h0
  obtain ⟨b, o, hA, hc⟩ := h h0
  refine ⟨b, o, hA, fun i x hx => ?_⟩
  have hi : i < l.length := (List.getElem?_eq_some_iff.1 hx).1
  rw [hc i hi]
  simp [hx]
theorem op_of {B : Nat} {w : World} {cs : List Value} {x : T7} (h : kOp.ok B w cs x) : ∃ o : Op7, cs = o.cells.toList ∧ o.Ok w := by
  obtain ⟨c1, _, rfl, _, ⟨rfl, _⟩, c2, _, rfl, _, ⟨rfl, h2⟩, c3, _, rfl, _, h3, c4, _, rfl, _, h4, c5, _, rfl, _, ⟨rfl, h5⟩, c6, _, rfl, _, h6, c7, _, rfl, _, h7, h8⟩ := h
  have h7' : _ = [Value.bool x.2.2.2.2.2.2.1] := h7
  have h8' : _ = [] := h8
  subst h7' h8'
  obtain ⟨A1, k1, e1, hh1⟩ := h3
  obtain ⟨A2, k2, e2, hh2⟩ := h4
  obtain ⟨A3, k3, e3, hh3⟩ := h6
  subst e1 e2 e3
  obtain ⟨a1, a2, a3, a4, a5, _⟩ := open_bytes (l := x.2.2.1) (n := x.2.2.1.length) (c := k1) (A := A1) (w := w) (B := B) ⟨A1, k1, rfl, hh1⟩
  obtain ⟨b1, b2, b3, b4, b5, _⟩ := open_bytes (l := x.2.2.2.1) (n := x.2.2.2.1.length) (c := k2) (A := A2) (w := w) (B := B) ⟨A2, k2, rfl, hh2⟩
  obtain ⟨ws, d1, d2, d3, d4, d5, d6⟩ := open_nats (k := .u64) (by_ := 8) (b0 := 18446744073709551616) (l := x.2.2.2.2.2.1) (n := x.2.2.2.2.2.1.length) (c := k3) (A := A3) (w := w) (B := B) (fun y hy => by have := wf_u64 hy; omega) ⟨A3, k3, rfl, hh3⟩
  have hW := wf_u64 h5
  obtain ⟨W, hWe⟩ := Int.eq_ofNat_of_zero_le hW.1
  refine ⟨⟨x.1, x.2.1, A1, _, k1, _, A2, _, k2, _, W, A3, _, k3, ws, x.2.2.2.2.2.2.1⟩, ?_, ⟨h2, a1, b1, d1, a2, b2, d2, a4, b4, rdV_of d5, a5, b5, d6, by show W < _; omega⟩⟩
  rw [hWe]; rfl
theorem ops_at {B : Nat} {w : World} {A : Option Addr} {xs : List T7} (h : Kk.Row kOp B w A xs) (h0 : 0 < xs.length) :
    ∃ bk off, A = some ⟨bk, off, none⟩ ∧ bk < B ∧ ∀ i, i < xs.length → ∃ o : Op7, o.Ok w ∧ ∀ j v, o.cells.toList[j]? = some v → w.cell? ⟨bk, off + (i * 7 + j), none⟩ = some v := by
  obtain ⟨bk, off, hA, hb, hc⟩ := h h0
  refine ⟨bk, off, hA, hb, fun i hi => ?_⟩
  obtain ⟨cs, hok, hcell⟩ := hc i hi
  obtain ⟨o, rfl, ho⟩ := op_of hok
  exact ⟨o, ho, hcell⟩
theorem opens_ops : Kk.Opens Try.prog 57 (Kk.kSlice kOp 104) :=
  Kk.opens_slice Try.underlying57 (by kernel_rfl) (by decide) (by kernel_rfl)
    (Kk.opens_struct Try.underlying72 (by kernel_rfl)
      (Kk.opensFs_cons rfl (Kk.opens_int Try.underlying3 (by kernel_rfl)) (Kk.opensFs_cons rfl (Kk.opens_byte Try.underlying5 (by kernel_rfl)) (Kk.opensFs_cons rfl (Kk.opens_slice Try.underlying22 rfl (by decide) rfl (Kk.opens_byte Try.underlying5 rfl)) (Kk.opensFs_cons rfl (Kk.opens_slice Try.underlying22 rfl (by decide) rfl (Kk.opens_byte Try.underlying5 rfl)) (Kk.opensFs_cons rfl (Kk.opens_int Try.underlying30 (by kernel_rfl)) (Kk.opensFs_cons rfl (Kk.opens_slice Try.underlying43 rfl (by decide) rfl (Kk.opens_int Try.underlying30 rfl)) (Kk.opensFs_cons rfl (Kk.opens_bool Try.underlying4 (by kernel_rfl)) Kk.opensFs_nil))))))))


set_option maxRecDepth 100000 in
set_option maxHeartbeats 4000000 in
theorem all_st {A : Option Addr} {n cp : Nat} {xs : List T7} (lo up : Int) {w : World} (hn : xs.length = n) (hl : n ≤ 9223372036854775807) (hx : Kk.Row kOp w.heap.size w A xs) :
    Calls Try.prog 31 #[.slice A n cp, .int .i64 lo, .int .i64 up] w fun e w' => e = .returned (.bool true) ∧ St w w' [] [] := by
  have HX := Lib.hid hx; have HN := Lib.hid hn
  clear hx hn
  have S0 := Lib.hid (St.start w)
  go_enter Try.func31, Try.ntmps31
  go_wp2_with fail
  refine (new_st _).mono ?_
  rintro e w1 ⟨p, rfl, hh⟩
  have h1 := S0.out.call hh; clear hh S0
  try simp only [List.nil_append, List.cons_append, List.append_eq, Int.toNat_natCast] at h1
  have S1 := Lib.hid h1; clear h1
  go_wp2_with fail
  refine (awake_st _ _).mono ?_
  rintro e w2 ⟨rfl, hh⟩
  have h2 := S1.out.call hh; clear hh S1
  try simp only [List.nil_append, List.cons_append, List.append_eq, Int.toNat_natCast] at h2
  have S2 := Lib.hid h2; clear h2
  have H2 := S2.out
  have HH := Lib.hid H2
  clear H2 S2
  go_wp2_with fail
  go_loopw [16] (fun vi wr => ∃ i : Nat, i ≤ n ∧ vi = .int .i64 i ∧ St w wr [] []) (fun vi _ => n - (intOf vi).toNat)
  case atStart => exact ⟨0, by omega, rfl, HH.out⟩
  case round =>
    clear HH
    obtain ⟨i, hi, rfl, hs⟩ := hrel
    have S2 := Lib.hid hs; clear hs
    by_cases hlt : i < n
    · obtain ⟨bk, off, eA, hbk, hat⟩ := ops_at HX.out (by rw [HN.out]; omega)
      obtain ⟨o, ho, m⟩ := hat i (by rw [HN.out]; exact hlt)
      subst eA
      clear hat
      have HO := Lib.hid (ho.ext S2.out)
      clear ho
      obtain ⟨kind, c, A1, n1, c1, D, A2, n2, c2, l, W, A3, n3, c3, ws, sf⟩ := o
      have m0 := m 0 _ rfl; have m1 := m 1 _ rfl; have m2 := m 2 _ rfl; have m3 := m 3 _ rfl; have m4 := m 4 _ rfl; have m5 := m 5 _ rfl; have m6 := m 6 _ rfl
      clear m
      rw [← S2.out.rules.1 bk _ hbk] at m0 m1 m2 m3 m4 m5 m6
      rw [← Nat.add_assoc] at m1 m2 m3 m4 m5 m6
      rw [Nat.add_zero] at m0
      clear HX
      have i0 : (0 : Int) ≤ (i : Int) := by omega
      have i1 : (i : Int) < (n : Int) := by omega
      by_cases q1 : kind < lo
      · go_wp2_with fail
        go_roundw
        case rel => exact ⟨i + 1, by omega, by go_num, S2.out.skip⟩
        case measure => simp [intOf]; omega
      · have q2 : lo ≤ kind := by omega
        clear q1
        by_cases q3 : up < kind
        · go_wp2_with fail
          go_roundw
          case rel => exact ⟨i + 1, by omega, by go_num, S2.out.skip⟩
          case measure => simp [intOf]; omega
        · have q4 : kind ≤ up := by omega
          clear q3
          have S3 := Lib.hid (S2.out.skip (t := 72) (c := #[.int .i64 kind, .int .u8 c, .slice A1 n1 c1, .slice A2 n2 c2, .int .u64 W, .slice A3 n3 c3, .bool sf]))
          have HO3 := Lib.hid (HO.out.ext ((St.start wr).skip (t := 72) (c := #[.int .i64 kind, .int .u8 c, .slice A1 n1 c1, .slice A2 n2 c2, .int .u64 W, .slice A3 n3 c3, .bool sf])))
          go_wp2_with fail
          refine (plays_at p kind c A1 n1 c1 D A2 n2 c2 l W A3 n3 c3 ws sf _ HO3.out).mono ?_
          rintro e w4 ⟨rfl, hh⟩
          have h4 := S3.out.call hh; clear hh S3
          try simp only [List.nil_append, List.cons_append, List.append_eq, Int.toNat_natCast] at h4
          have S4 := Lib.hid h4; clear h4
          go_wp2_with fail
          clear m0 m1 m2 m3 m4 m5 m6
          go_roundw
          case rel => exact ⟨i + 1, by omega, by go_num, S4.out⟩
          case measure => simp [intOf]; omega
    · obtain rfl : n = i := by omega
      go_wp2_with fail
      go_ret
      exact ⟨rfl, S2.out.nil⟩

set_option maxHeartbeats 1000000 in
theorem slices_walk (A : Option Addr) (n cp : Nat) (xs : List T7) (w : World) (h : (Kk.kSlice kOp 104).ok w.heap.size w [.slice A n cp] xs) :
    Calls Try.prog 8 #[.slice A n cp] w fun e w' => e = .returned (.bool true) ∧ Below w.heap.size w w' := by
  obtain ⟨A', c', he, _, hm, hr, hrow⟩ := h
  injection he with he _
  injection he with e1 e2 e3
  subst e1 e2 e3
  have hl : xs.length ≤ 9223372036854775807 := by unfold reachBytes at hr; omega
  have HR := Lib.hid hrow
  clear hrow hm hr
  go_enter Try.func8, Try.ntmps8
  go_wp2_with (go_at_call 31; refine (all_st 1 2 rfl hl HR.out).mono ?_; rintro e w' ⟨rfl, hb⟩)
  go_ret
  exact ⟨rfl, hb.below⟩

set_option maxHeartbeats 1000000 in
theorem words_walk (A : Option Addr) (n cp : Nat) (xs : List T7) (w : World) (h : (Kk.kSlice kOp 104).ok w.heap.size w [.slice A n cp] xs) :
    Calls Try.prog 9 #[.slice A n cp] w fun e w' => e = .returned (.bool true) ∧ Below w.heap.size w w' := by
  obtain ⟨A', c', he, _, hm, hr, hrow⟩ := h
  injection he with he _
  injection he with e1 e2 e3
  subst e1 e2 e3
  have hl : xs.length ≤ 9223372036854775807 := by unfold reachBytes at hr; omega
  have HR := Lib.hid hrow
  clear hrow hm hr
  go_enter Try.func9, Try.ntmps9
  go_wp2_with (go_at_call 31; refine (all_st 3 4 rfl hl HR.out).mono ?_; rintro e w' ⟨rfl, hb⟩)
  go_ret
  exact ⟨rfl, hb.below⟩

set_option maxHeartbeats 1000000 in
theorem blocks_walk (A : Option Addr) (n cp : Nat) (xs : List T7) (w : World) (h : (Kk.kSlice kOp 104).ok w.heap.size w [.slice A n cp] xs) :
    Calls Try.prog 10 #[.slice A n cp] w fun e w' => e = .returned (.bool true) ∧ Below w.heap.size w w' := by
  obtain ⟨A', c', he, _, hm, hr, hrow⟩ := h
  injection he with he _
  injection he with e1 e2 e3
  subst e1 e2 e3
  have hl : xs.length ≤ 9223372036854775807 := by unfold reachBytes at hr; omega
  have HR := Lib.hid hrow
  clear hrow hm hr
  go_enter Try.func10, Try.ntmps10
  go_wp2_with (go_at_call 31; refine (all_st 5 6 rfl hl HR.out).mono ?_; rintro e w' ⟨rfl, hb⟩)
  go_ret
  exact ⟨rfl, hb.below⟩

set_option maxHeartbeats 1000000 in
theorem alls_walk (A : Option Addr) (n cp : Nat) (xs : List T7) (w : World) (h : (Kk.kSlice kOp 104).ok w.heap.size w [.slice A n cp] xs) :
    Calls Try.prog 11 #[.slice A n cp] w fun e w' => e = .returned (.bool true) ∧ Below w.heap.size w w' := by
  obtain ⟨A', c', he, _, hm, hr, hrow⟩ := h
  injection he with he _
  injection he with e1 e2 e3
  subst e1 e2 e3
  have hl : xs.length ≤ 9223372036854775807 := by unfold reachBytes at hr; omega
  have HR := Lib.hid hrow
  clear hrow hm hr
  go_enter Try.func11, Try.ntmps11
  go_wp2_with (go_at_call 31; refine (all_st 1 6 rfl hl HR.out).mono ?_; rintro e w' ⟨rfl, hb⟩)
  go_ret
  exact ⟨rfl, hb.below⟩

end Go.Proofs.Ytcjcolmhhbnmgaa.Sl
