/- Layer 8: scripts of Words, Bytes, Split, Merge: the law PlanesPacks (what is read within the bound). -/
import Derived.Test.YtadgjmlkpnifoaaPk
import Derived.Test.YtadgjmlkpnifoaaRm
import Derived.Test.YtadgjmlkpnifoaaKu
import Derived.Test.YtadgjmlkpnifoaaOb
namespace Go.Proofs.Ytadgjmlkpnifoaa.Pq
set_option linter.unusedSimpArgs false
set_option linter.unusedVariables false
open Go Go.RowKit Go.Proofs.Ytadgjmlkpnifoaa Go.Proofs.Ytadgjmlkpnifoaa.Mm Go.Proofs.Ytadgjmlkpnifoaa.Gh Go.Proofs.Ytadgjmlkpnifoaa.Wr Go.Proofs.Ytadgjmlkpnifoaa.St

/-- A step of a script. -/
structure Op8 where
  kind : Int
  c : Int
  A1 : Option Addr
  n1 : Nat
  c1 : Nat
  D : List Nat
  A2 : Option Addr
  n2 : Nat
  c2 : Nat
  l : List Nat
  A3 : Option Addr
  n3 : Nat
  c3 : Nat
  vs : List Nat
  sf : Bool
  nil : Bool
  ah : Int
  bh : Int
def Op8.cells (o : Op8) : Array Value := #[.int .i64 o.kind, .int .u16 o.c, .slice o.A1 o.n1 o.c1, .slice o.A2 o.n2 o.c2, .slice o.A3 o.n3 o.c3, .bool o.sf, .bool o.nil, .int .i64 o.ah, .int .i64 o.bh]
structure Op8.Ok (o : Op8) (w : World) : Prop where
  h0 : 0 ≤ o.c
  hc : o.c < 65536
  hD : o.D.length = o.n1
  hl : o.l.length = o.n2
  hw : o.vs.length = o.n3
  hn1 : o.n1 ≤ 1048576
  hn2 : o.n2 ≤ 1048576
  hn3 : o.n3 ≤ 1048576
  r1 : Rd w o.A1 o.D
  r2 : Rd w o.A2 o.l
  r3 : RdV e16 w o.A3 o.vs
  d8 : B8 o.D
  l8 : B8 o.l
  w16 : W16 o.vs
theorem Op8.Ok.ext {o : Op8} {w0 w : World} {N : List Ent} (h : o.Ok w0) (s : St w0 w [] N) : o.Ok w := ⟨h.h0, h.hc, h.hD, h.hl, h.hw, h.hn1, h.hn2, h.hn3, s.ext h.r1, s.ext h.r2, s.extV h.r3, h.d8, h.l8, h.w16⟩

theorem packs_at (kind c : Int) (A1 : Option Addr) (n1 c1 : Nat) (D : List Nat) (A2 : Option Addr) (n2 c2 : Nat) (l : List Nat) (A3 : Option Addr) (n3 c3 : Nat) (vs : List Nat) (sf nil : Bool) (ah bh : Int) (w : World) (h : (⟨kind, c, A1, n1, c1, D, A2, n2, c2, l, A3, n3, c3, vs, sf, nil, ah, bh⟩ : Op8).Ok w) (k1 : 3 ≤ kind) (k2 : kind ≤ 6) :
    Calls Try.prog 46 #[.agg #[.int .i64 kind, .int .u16 c, .slice A1 n1 c1, .slice A2 n2 c2, .slice A3 n3 c3, .bool sf, .bool nil, .int .i64 ah, .int .i64 bh]] w fun e w' => e = .returned (.bool true) ∧ St w w' [] [] := by
  obtain ⟨h0, hc, hD, hl, hw, hn1, hn2, hn3, r1, r2, r3, d8, l8, w16⟩ := h
  simp only at h0 hc hD hl hw hn1 hn2 hn3 r1 r2 r3 d8 l8 w16
  obtain ⟨c, rfl⟩ := Int.eq_ofNat_of_zero_le h0
  have hk : kind = 3 ∨ kind = 4 ∨ kind = 5 ∨ kind = 6 := by omega
  rcases hk with rfl | rfl | rfl | rfl
  · rcases Nat.mod_two_eq_zero_or_one n2 with he | he
    · exact pk_words 3 c A1 n1 c1 D A2 n2 c2 l A3 n3 c3 vs sf nil ah bh w hD hl hw hn1 hn2 hn3 r1 r2 r3 d8 l8 w16 he
    · exact pk_words_odd 3 c A1 n1 c1 D A2 n2 c2 l A3 n3 c3 vs sf nil ah bh w hD hl hw hn1 hn2 hn3 r1 r2 r3 d8 l8 w16 he
  · exact pk_bytes 4 c A1 n1 c1 D A2 n2 c2 l A3 n3 c3 vs sf nil ah bh w hD hl hw hn1 hn2 hn3 r1 r2 r3 d8 l8 w16
  · rcases Nat.mod_two_eq_zero_or_one n2 with he | he
    · exact pk_split 5 c A1 n1 c1 D A2 n2 c2 l A3 n3 c3 vs sf nil ah bh w hD hl hw hn1 hn2 hn3 r1 r2 r3 d8 l8 w16 he
    · exact pk_split_odd 5 c A1 n1 c1 D A2 n2 c2 l A3 n3 c3 vs sf nil ah bh w hD hl hw hn1 hn2 hn3 r1 r2 r3 d8 l8 w16 he
  · by_cases he : n2 = n1
    · exact pk_merge 6 c A1 n1 c1 D A2 n2 c2 l A3 n3 c3 vs sf nil ah bh w hD hl hw hn1 hn2 hn3 r1 r2 r3 d8 l8 w16 he
    · exact pk_merge_ne 6 c A1 n1 c1 D A2 n2 c2 l A3 n3 c3 vs sf nil ah bh w hD hl hw hn1 hn2 hn3 r1 r2 r3 d8 l8 w16 he

set_option maxRecDepth 100000 in
set_option maxHeartbeats 4000000 in
theorem one_packs (pa : Option Addr) (kind c : Int) (A1 : Option Addr) (n1 c1 : Nat) (D : List Nat) (A2 : Option Addr) (n2 c2 : Nat) (l : List Nat) (A3 : Option Addr) (n3 c3 : Nat) (vs : List Nat) (sf nil : Bool) (ah bh : Int) (w : World) (h : (⟨kind, c, A1, n1, c1, D, A2, n2, c2, l, A3, n3, c3, vs, sf, nil, ah, bh⟩ : Op8).Ok w) (k1 : 3 ≤ kind) (k2 : kind ≤ 6) :
    Calls Try.prog 40 #[.pointer pa, .agg #[.int .i64 kind, .int .u16 c, .slice A1 n1 c1, .slice A2 n2 c2, .slice A3 n3 c3, .bool sf, .bool nil, .int .i64 ah, .int .i64 bh]] w fun e w' => e = .returned (.bool true) ∧ St w w' [] [] := by
  have HO := Lib.hid h
  have K1 := Lib.hid k1; have K2 := Lib.hid k2
  clear h
  have SA := Lib.hid (St.start w)
  have hk : kind = 3 ∨ kind = 4 ∨ kind = 5 ∨ kind = 6 := by omega
  clear k1 k2
  rcases hk with rfl | rfl | rfl | rfl
  all_goals
    go_enter Try.func40, Try.ntmps40
    go_wp2_with ((with_reducible refine at_slot (N := 3) rfl ?_); refine box_law rfl 72 _ _ rfl rfl SA.out ?_; intro ob w0 hs; have SB := Lib.hid hs; clear hs SA; have oc0 := (SB.out.blk mem0).cell (i := 0) rfl; have oc1 := (SB.out.blk mem0).cell (i := 1) rfl; have oc2 := (SB.out.blk mem0).cell (i := 2) rfl; have oc3 := (SB.out.blk mem0).cell (i := 3) rfl; have oc4 := (SB.out.blk mem0).cell (i := 4) rfl; have oc5 := (SB.out.blk mem0).cell (i := 5) rfl; have oc6 := (SB.out.blk mem0).cell (i := 6) rfl; have oc7 := (SB.out.blk mem0).cell (i := 7) rfl; have oc8 := (SB.out.blk mem0).cell (i := 8) rfl)
    go_wp2_with fail
    refine (packs_at _ c A1 n1 c1 D A2 n2 c2 l A3 n3 c3 vs sf nil ah bh _ (HO.out.ext SB.out) K1.out K2.out).mono ?_
    rintro e w1 ⟨rfl, hh⟩
    have h1 := SB.out.call hh; clear hh SB
    try simp only [List.nil_append, List.cons_append, List.append_eq, Int.toNat_natCast] at h1
    have S1 := Lib.hid h1; clear h1
    go_wp2_with fail
    go_ret
    exact ⟨rfl, S1.out.nil⟩

abbrev T8 := Int × Int × List Nat × List Nat × List Int × Bool × Bool × Int × Int × Unit
abbrev kSl8 : Kk.K (List Nat) := Ku.kSliceU Kk.kByte 1
abbrev kOp8 : Kk.K T8 := Kk.kPair (Kk.kInt .i64) (Kk.kPair (Kk.kInt .u16) (Kk.kPair kSl8 (Kk.kPair kSl8 (Kk.kPair (Ku.kSliceU (Kk.kInt .u16) 2) (Kk.kPair Kk.kBool (Kk.kPair Kk.kBool (Kk.kPair (Kk.kInt .i64) (Kk.kPair (Kk.kInt .i64) Kk.kUnit))))))))
theorem rdV16 {w : World} {A : Option Addr} {l : List Nat} (h : RdN .u16 w A l) : RdV e16 w A l := by
  intro h0
  obtain ⟨b, o, hA, hc⟩ := h h0
  refine ⟨b, o, hA, fun i x hx => ?_⟩
  have hi : i < l.length := (List.getElem?_eq_some_iff.1 hx).1
  rw [hc i hi]
  simp [hx]
theorem op8_of {B : Nat} {w : World} {cs : List Value} {x : T8} (h : kOp8.ok B w cs x) : ∃ o : Op8, cs = o.cells.toList ∧ o.Ok w := by
  obtain ⟨c1, _, rfl, _, ⟨rfl, _⟩, c2, _, rfl, _, ⟨rfl, h2⟩, c3, _, rfl, _, ⟨h3, u3⟩, c4, _, rfl, _, ⟨h4, u4⟩, c5, _, rfl, _, ⟨h5, u5⟩, c6, _, rfl, _, h6, c7, _, rfl, _, h7, c8, _, rfl, _, ⟨rfl, _⟩, c9, _, rfl, _, ⟨rfl, _⟩, h10⟩ := h
  have h6' : _ = [Value.bool x.2.2.2.2.2.1] := h6
  have h7' : _ = [Value.bool x.2.2.2.2.2.2.1] := h7
  have h10' : _ = [] := h10
  subst h6' h7' h10'
  obtain ⟨A1, k1, e1, hh1⟩ := h3
  obtain ⟨A2, k2, e2, hh2⟩ := h4
  obtain ⟨A3, k3, e3, hh3⟩ := h5
  subst e1 e2 e3
  obtain ⟨a1, a2, a3, a4, a5, _⟩ := open_bytes (l := x.2.2.1) (n := x.2.2.1.length) (c := k1) (A := A1) (w := w) (B := B) ⟨A1, k1, rfl, hh1⟩
  obtain ⟨b1, b2, b3, b4, b5, _⟩ := open_bytes (l := x.2.2.2.1) (n := x.2.2.2.1.length) (c := k2) (A := A2) (w := w) (B := B) ⟨A2, k2, rfl, hh2⟩
  obtain ⟨vs, d1, d2, d3, d4, d5, d6⟩ := open_nats (k := .u16) (by_ := 2) (b0 := 65536) (l := x.2.2.2.2.1) (n := x.2.2.2.2.1.length) (c := k3) (A := A3) (w := w) (B := B) (fun y hy => by have := wf_u16 hy; omega) ⟨A3, k3, rfl, hh3⟩
  have hC := wf_u16 h2
  exact ⟨⟨x.1, x.2.1, A1, _, k1, _, A2, _, k2, _, A3, _, k3, vs, x.2.2.2.2.2.1, x.2.2.2.2.2.2.1, x.2.2.2.2.2.2.2.1, x.2.2.2.2.2.2.2.2.1⟩, rfl, ⟨by show 0 ≤ x.2.1; omega, by show x.2.1 < 65536; omega, a1, b1, d1, u3, u4, u5, a4, b4, rdV16 d5, a5, b5, d6⟩⟩
theorem ops8_at {B : Nat} {w : World} {A : Option Addr} {xs : List T8} (h : Kk.Row kOp8 B w A xs) (h0 : 0 < xs.length) :
    ∃ bk off, A = some ⟨bk, off, none⟩ ∧ bk < B ∧ ∀ i, i < xs.length → ∃ o : Op8, o.Ok w ∧ ∀ j v, o.cells.toList[j]? = some v → w.cell? ⟨bk, off + (i * 9 + j), none⟩ = some v := by
  obtain ⟨bk, off, hA, hb, hc⟩ := h h0
  refine ⟨bk, off, hA, hb, fun i hi => ?_⟩
  obtain ⟨cs, hok, hcell⟩ := hc i hi
  obtain ⟨o, rfl, ho⟩ := op8_of hok
  exact ⟨o, ho, hcell⟩
theorem opens_ops8 : Ku.OpensU Try.prog 50 (Ku.kSliceU kOp8 128) :=
  Ku.opensU_slice Try.underlying50 (by kernel_rfl) (by decide) (by decide)
    (Ku.opensU_struct Try.underlying72 (by kernel_rfl)
      (Ku.opensFsU_cons rfl (Ku.opensU_int Try.underlying3 (by kernel_rfl)) (Ku.opensFsU_cons rfl (Ku.opensU_int Try.underlying23 (by kernel_rfl)) (Ku.opensFsU_cons rfl (Ku.opensU_slice Try.underlying24 rfl (by decide) (by decide) (Ku.opensU_byte Try.underlying5 rfl)) (Ku.opensFsU_cons rfl (Ku.opensU_slice Try.underlying24 rfl (by decide) (by decide) (Ku.opensU_byte Try.underlying5 rfl)) (Ku.opensFsU_cons rfl (Ku.opensU_slice Try.underlying36 rfl (by decide) (by decide) (Ku.opensU_int Try.underlying23 rfl)) (Ku.opensFsU_cons rfl (Ku.opensU_bool Try.underlying4 (by kernel_rfl)) (Ku.opensFsU_cons rfl (Ku.opensU_bool Try.underlying4 (by kernel_rfl)) (Ku.opensFsU_cons rfl (Ku.opensU_int Try.underlying3 (by kernel_rfl)) (Ku.opensFsU_cons rfl (Ku.opensU_int Try.underlying3 (by kernel_rfl)) Ku.opensFsU_nil))))))))))

/-- What one call of a script is, between two kinds. -/
def OneOk (lo up : Int) : Prop := ∀ (pa : Option Addr) (kind c : Int) (A1 : Option Addr) (n1 c1 : Nat) (D : List Nat) (A2 : Option Addr) (n2 c2 : Nat) (l : List Nat) (A3 : Option Addr) (n3 c3 : Nat) (vs : List Nat) (sf nil : Bool) (ah bh : Int) (w : World), (⟨kind, c, A1, n1, c1, D, A2, n2, c2, l, A3, n3, c3, vs, sf, nil, ah, bh⟩ : Op8).Ok w → lo ≤ kind → kind ≤ up →
    Calls Try.prog 40 #[.pointer pa, .agg #[.int .i64 kind, .int .u16 c, .slice A1 n1 c1, .slice A2 n2 c2, .slice A3 n3 c3, .bool sf, .bool nil, .int .i64 ah, .int .i64 bh]] w fun e w' => e = .returned (.bool true) ∧ St w w' [] []
theorem qs_len (c i : Nat) : ((qs c 4).getD i []).length ≤ 281474976710656 := by
  by_cases h : i < 4
  · rw [qs_get h, qr_length]; decide
  · simp [qs, List.getD_eq_getElem?_getD, h]

set_option maxRecDepth 100000 in
set_option maxHeartbeats 4000000 in
theorem plays8_st {A : Option Addr} {n cp : Nat} {xs : List T8} (lo up : Int) {w : World} (hone : OneOk lo up) (hn : xs.length = n) (hl : n ≤ 9223372036854775807) (hx : Kk.Row kOp8 w.heap.size w A xs) :
    Calls Try.prog 27 #[.slice A n cp, .int .i64 lo, .int .i64 up] w fun e w' => e = .returned (.bool true) ∧ St w w' [] [] := by
  have HX := Lib.hid hx; have HN := Lib.hid hn; have H1 := Lib.hid hone
  clear hx hn hone
  have S0 := Lib.hid (St.start w)
  go_enter Try.func27, Try.ntmps27
  go_wp2_with fail
  refine (awake_st _).mono ?_
  rintro e w1 ⟨k, rfl, hh⟩
  have h1 := S0.out.call hh; clear hh S0
  try simp only [List.nil_append, List.cons_append, List.append_eq, Int.toNat_natCast] at h1
  have S1 := Lib.hid h1; clear h1
  go_wp2_with fail
  refine (quarters_st 2 _ (by decide)).mono ?_
  rintro e w2 ⟨AQ, cq, NQ, rfl, hpl, hh⟩
  have h2 := S1.out.call hh; clear hh S1
  try simp only [List.nil_append, List.cons_append, List.append_eq, Int.toNat_natCast] at h2
  have HP1 := Lib.hid hpl; clear hpl
  have S2 := Lib.hid h2; clear h2
  go_wp2_with fail
  refine (rquarters_st 2 _ (by decide)).mono ?_
  rintro e w3 ⟨AR, cr, NR, rfl, hpl, hh⟩
  have h3 := S2.out.call hh; clear hh S2
  try simp only [List.nil_append, List.cons_append, List.append_eq, Int.toNat_natCast] at h3
  have HP2 := Lib.hid hpl; clear hpl
  have S3 := Lib.hid h3; clear h3
  go_wp2_with fail
  refine (rows_st (qs_length 2 4) (by decide) (qs_len 2) (HP1.out w w3 [] _ S3.out (fun e he => by simp [he])) (HP2.out w w3 [] _ S3.out (fun e he => by simp [he]))).mono ?_
  rintro e w4 ⟨rfl, hh⟩
  have h4 := S3.out.call hh; clear hh S3
  try simp only [List.nil_append, List.cons_append, List.append_eq, Int.toNat_natCast] at h4
  have S4 := Lib.hid h4; clear h4
  have SZ := Lib.hid S4.out.nil
  clear S4
  go_wp2_with fail
  go_loopw [9] (fun vi wr => ∃ i : Nat, i ≤ n ∧ vi = .int .i64 i ∧ St w wr [] []) (fun vi _ => n - (intOf vi).toNat)
  case atStart => exact ⟨0, by omega, rfl, SZ.out⟩
  case round =>
    clear SZ
    obtain ⟨i, hi, rfl, hs⟩ := hrel
    have S2 := Lib.hid hs; clear hs
    by_cases hlt : i < n
    · obtain ⟨bk, off, eA, hbk, hat⟩ := ops8_at HX.out (by rw [HN.out]; omega)
      obtain ⟨o, ho, m⟩ := hat i (by rw [HN.out]; exact hlt)
      subst eA
      clear hat
      have HO := Lib.hid (ho.ext S2.out)
      clear ho
      obtain ⟨kind, c, A1, n1, c1, D, A2, n2, c2, l, A3, n3, c3, vs, sf, nl, ah, bh⟩ := o
      have m0 := m 0 _ rfl; have m1 := m 1 _ rfl; have m2 := m 2 _ rfl; have m3 := m 3 _ rfl; have m4 := m 4 _ rfl; have m5 := m 5 _ rfl; have m6 := m 6 _ rfl; have m7 := m 7 _ rfl; have m8 := m 8 _ rfl
      clear m
      rw [← S2.out.rules.1 bk _ hbk] at m0 m1 m2 m3 m4 m5 m6 m7 m8
      rw [← Nat.add_assoc] at m1 m2 m3 m4 m5 m6 m7 m8
      rw [Nat.add_zero] at m0
      clear HX
      have i0 : (0 : Int) ≤ (i : Int) := by omega
      have i1 : (i : Int) < (n : Int) := by omega
      by_cases q1 : kind < lo
      · go_wp2_with fail
        go_roundw
        case rel => exact ⟨i + 1, by omega, by go_num, S2.out.skip⟩
        case measure => simp [intOf]; omega
      · have q2 : lo ≤ kind := by omega
        clear q1
        by_cases q3 : up < kind
        · go_wp2_with fail
          go_roundw
          case rel => exact ⟨i + 1, by omega, by go_num, S2.out.skip⟩
          case measure => simp [intOf]; omega
        · have q4 : kind ≤ up := by omega
          clear q3
          have S3 := Lib.hid (S2.out.skip (t := 72) (c := #[.int .i64 kind, .int .u16 c, .slice A1 n1 c1, .slice A2 n2 c2, .slice A3 n3 c3, .bool sf, .bool nl, .int .i64 ah, .int .i64 bh]))
          have HO3 := Lib.hid (HO.out.ext ((St.start wr).skip (t := 72) (c := #[.int .i64 kind, .int .u16 c, .slice A1 n1 c1, .slice A2 n2 c2, .slice A3 n3 c3, .bool sf, .bool nl, .int .i64 ah, .int .i64 bh])))
          cases nl with
          | true =>
            go_wp2_with fail
            refine (H1.out none kind c A1 n1 c1 D A2 n2 c2 l A3 n3 c3 vs sf true ah bh _ HO3.out q2 q4).mono ?_
            rintro e w4 ⟨rfl, hh⟩
            have h4 := S3.out.call hh; clear hh S3
            try simp only [List.nil_append, List.cons_append, List.append_eq, Int.toNat_natCast] at h4
            have S4 := Lib.hid h4; clear h4
            go_wp2_with fail
            clear m0 m1 m2 m3 m4 m5 m6 m7 m8
            go_roundw
            case rel => exact ⟨i + 1, by omega, by go_num, S4.out⟩
            case measure => simp [intOf]; omega
          | false =>
            go_wp2_with fail
            refine (H1.out (some k) kind c A1 n1 c1 D A2 n2 c2 l A3 n3 c3 vs sf false ah bh _ HO3.out q2 q4).mono ?_
            rintro e w4 ⟨rfl, hh⟩
            have h4 := S3.out.call hh; clear hh S3
            try simp only [List.nil_append, List.cons_append, List.append_eq, Int.toNat_natCast] at h4
            have S4 := Lib.hid h4; clear h4
            go_wp2_with fail
            clear m0 m1 m2 m3 m4 m5 m6 m7 m8
            go_roundw
            case rel => exact ⟨i + 1, by omega, by go_num, S4.out⟩
            case measure => simp [intOf]; omega
    · obtain rfl : n = i := by omega
      go_wp2_with fail
      go_ret
      exact ⟨rfl, S2.out.nil⟩

set_option maxHeartbeats 1000000 in
theorem packs_walk (A : Option Addr) (n cp : Nat) (xs : List T8) (w : World) (h : (Ku.kSliceU kOp8 128).ok w.heap.size w [.slice A n cp] xs) :
    Calls Try.prog 9 #[.slice A n cp] w fun e w' => e = .returned (.bool true) ∧ Below w.heap.size w w' := by
  obtain ⟨⟨A', c', he, _, hm, hr, hrow⟩, hu⟩ := h
  injection he with he _
  injection he with e1 e2 e3
  subst e1 e2 e3
  have hl : xs.length ≤ 9223372036854775807 := by omega
  have HR := Lib.hid hrow
  clear hrow hm hr
  have h1 : OneOk 3 6 := one_packs
  go_enter Try.func9, Try.ntmps9
  go_wp2_with (go_at_call 27; refine (plays8_st 3 6 h1 rfl hl HR.out).mono ?_; rintro e w' ⟨rfl, hb⟩)
  go_ret
  exact ⟨rfl, hb.below⟩

end Go.Proofs.Ytadgjmlkpnifoaa.Pq
