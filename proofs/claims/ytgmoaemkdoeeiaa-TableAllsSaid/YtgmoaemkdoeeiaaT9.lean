/- Layer 5: the scripts' laws TableMuls, TableAlls: their walks. -/
import Derived.Test.YtgmoaemkdoeeiaaT8
namespace Go.Proofs.Ytgmoaemkdoeeiaa.L5t
open Go Go.RowKit Go.Proofs.Ytgmoaemkdoeeiaa Go.Proofs.Ytgmoaemkdoeeiaa.Mm Go.Proofs.Ytgmoaemkdoeeiaa.Gf Go.Proofs.Ytgmoaemkdoeeiaa.Wr Go.Proofs.Ytgmoaemkdoeeiaa.St Go.Proofs.Ytgmoaemkdoeeiaa.Tk

abbrev kSl : Kk.K (List Nat) := Kk.kSlice Kk.kByte 1
abbrev T5 := Int × Nat × Nat × List Nat × List Nat × Bool × Bool × Int × Int × Unit
abbrev kOp : Kk.K T5 := Kk.kPair (Kk.kInt .i64) (Kk.kPair Kk.kByte (Kk.kPair Kk.kByte (Kk.kPair kSl (Kk.kPair kSl (Kk.kPair Kk.kBool (Kk.kPair Kk.kBool (Kk.kPair (Kk.kInt .i64) (Kk.kPair (Kk.kInt .i64) Kk.kUnit))))))))
theorem op_of {B : Nat} {w : World} {cs : List Value} {x : T5} (h : kOp.ok B w cs x) : ∃ o : Op5, cs = o.cells.toList ∧ o.Ok w := by
  obtain ⟨c1, _, rfl, _, ⟨rfl, _⟩, c2, _, rfl, _, ⟨rfl, h2⟩, c3, _, rfl, _, ⟨rfl, h3⟩, c4, _, rfl, _, h4, c5, _, rfl, _, h5, c6, _, rfl, _, h6, c7, _, rfl, _, h7, c8, _, rfl, _, ⟨rfl, _⟩, c9, _, rfl, _, ⟨rfl, _⟩, h10⟩ := h
  have h6' : _ = [Value.bool x.2.2.2.2.2.1] := h6
  have h7' : _ = [Value.bool x.2.2.2.2.2.2.1] := h7
  have h10' : _ = [] := h10
  subst h6' h7' h10'
  obtain ⟨A1, k1, e1, hh1⟩ := h4
  obtain ⟨A2, k2, e2, hh2⟩ := h5
  subst e1 e2
  obtain ⟨a1, a2, a3, a4, a5, _⟩ := open_bytes (l := x.2.2.2.1) (n := x.2.2.2.1.length) (c := k1) (A := A1) (w := w) (B := B) ⟨A1, k1, rfl, hh1⟩
  obtain ⟨b1, b2, b3, b4, b5, _⟩ := open_bytes (l := x.2.2.2.2.1) (n := x.2.2.2.2.1.length) (c := k2) (A := A2) (w := w) (B := B) ⟨A2, k2, rfl, hh2⟩
  exact ⟨⟨x.1, x.2.1, x.2.2.1, A1, _, k1, _, A2, _, k2, _, x.2.2.2.2.2.1, x.2.2.2.2.2.2.1, x.2.2.2.2.2.2.2.1, x.2.2.2.2.2.2.2.2.1⟩, rfl, ⟨h2, h3, a1, b1, a2, b2, a4, b4, a5, b5⟩⟩
theorem ops_at {B : Nat} {w : World} {A : Option Addr} {xs : List T5} (h : Kk.Row kOp B w A xs) (h0 : 0 < xs.length) :
    ∃ bk off, A = some ⟨bk, off, none⟩ ∧ bk < B ∧ ∀ i, i < xs.length → ∃ o : Op5, o.Ok w ∧ ∀ j v, o.cells.toList[j]? = some v → w.cell? ⟨bk, off + (i * 9 + j), none⟩ = some v := by
  obtain ⟨bk, off, hA, hb, hc⟩ := h h0
  refine ⟨bk, off, hA, hb, fun i hi => ?_⟩
  obtain ⟨cs, hok, hcell⟩ := hc i hi
  obtain ⟨o, rfl, ho⟩ := op_of hok
  exact ⟨o, ho, hcell⟩
theorem opens_ops : Kk.Opens Try.prog 34 (Kk.kSlice kOp 88) :=
  Kk.opens_slice Try.underlying34 (by kernel_rfl) (by decide) (by kernel_rfl)
    (Kk.opens_struct Try.underlying55 (by kernel_rfl)
      (Kk.opensFs_cons rfl (Kk.opens_int Try.underlying3 (by kernel_rfl)) (Kk.opensFs_cons rfl (Kk.opens_byte Try.underlying5 (by kernel_rfl)) (Kk.opensFs_cons rfl (Kk.opens_byte Try.underlying5 (by kernel_rfl)) (Kk.opensFs_cons rfl (Kk.opens_slice Try.underlying23 rfl (by decide) rfl (Kk.opens_byte Try.underlying5 rfl)) (Kk.opensFs_cons rfl (Kk.opens_slice Try.underlying23 rfl (by decide) rfl (Kk.opens_byte Try.underlying5 rfl)) (Kk.opensFs_cons rfl (Kk.opens_bool Try.underlying4 (by kernel_rfl)) (Kk.opensFs_cons rfl (Kk.opens_bool Try.underlying4 (by kernel_rfl)) (Kk.opensFs_cons rfl (Kk.opens_int Try.underlying3 (by kernel_rfl)) (Kk.opensFs_cons rfl (Kk.opens_int Try.underlying3 (by kernel_rfl)) Kk.opensFs_nil))))))))))

theorem one_nil (kind : Int) (c b : Nat) (A1 : Option Addr) (n1 c1 : Nat) (D : List Nat) (A2 : Option Addr) (n2 c2 : Nat) (l : List Nat) (same nl : Bool) (ah bh : Int) (w : World) (ho : (⟨kind, c, b, A1, n1, c1, D, A2, n2, c2, l, same, nl, ah, bh⟩ : Op5).Ok w) :
    Calls Try.prog 29 #[.pointer none, .agg #[.int .i64 kind, .int .u8 c, .int .u8 b, .slice A1 n1 c1, .slice A2 n2 c2, .bool same, .bool nl, .int .i64 ah, .int .i64 bh]] w fun e w' => e = .returned (.bool true) ∧ St w w' [] [] :=
  one_st none ⟨kind, c, b, A1, n1, c1, D, A2, n2, c2, l, same, nl, ah, bh⟩ w (fun _ h => by cases h) ho
theorem one_at (kb : Nat) (kind : Int) (c b : Nat) (A1 : Option Addr) (n1 c1 : Nat) (D : List Nat) (A2 : Option Addr) (n2 c2 : Nat) (l : List Nat) (same nl : Bool) (ah bh : Int) (w : World) (hk : Blk w kb 52 (row .u8 tabL)) (ho : (⟨kind, c, b, A1, n1, c1, D, A2, n2, c2, l, same, nl, ah, bh⟩ : Op5).Ok w) :
    Calls Try.prog 29 #[.pointer (some ⟨kb, 0, none⟩), .agg #[.int .i64 kind, .int .u8 c, .int .u8 b, .slice A1 n1 c1, .slice A2 n2 c2, .bool same, .bool nl, .int .i64 ah, .int .i64 bh]] w fun e w' => e = .returned (.bool true) ∧ St w w' [] [] :=
  one_st (some kb) ⟨kind, c, b, A1, n1, c1, D, A2, n2, c2, l, same, nl, ah, bh⟩ w (fun _ h => by injection h with h; subst h; exact hk) ho

set_option maxRecDepth 100000 in
set_option maxHeartbeats 4000000 in
theorem plays_st {A : Option Addr} {n cp : Nat} {xs : List T5} (lo up : Int) {w : World} (hn : xs.length = n) (hl : n ≤ 9223372036854775807) (hx : Kk.Row kOp w.heap.size w A xs) :
    Calls Try.prog 18 #[.slice A n cp, .int .i64 lo, .int .i64 up] w fun e w' => e = .returned (.bool true) ∧ St w w' [] [] := by
  have HX := Lib.hid hx; have HN := Lib.hid hn
  clear hx hn
  have S0 := Lib.hid (St.start w)
  go_enter Try.func18, Try.ntmps18
  go_wp2_with fail
  refine (awake_st _).mono ?_
  rintro e w1 ⟨kb, rfl, hh⟩
  have h1 := S0.out.call hh; clear hh S0
  try simp only [List.nil_append, List.cons_append, List.append_eq, Int.toNat_natCast] at h1
  have S1 := Lib.hid h1; clear h1
  go_wp2_with fail
  go_loopw [9] (fun vi wr => ∃ i : Nat, i ≤ n ∧ vi = .int .i64 i ∧ St w wr [] [tk kb]) (fun vi _ => n - (intOf vi).toNat)
  case atStart => exact ⟨0, by omega, rfl, S1.out⟩
  case round =>
    clear S1
    obtain ⟨i, hi, rfl, hs⟩ := hrel
    have S2 := Lib.hid hs; clear hs
    by_cases hlt : i < n
    · obtain ⟨bk, off, eA, hbk, hat⟩ := ops_at HX.out (by rw [HN.out]; omega)
      obtain ⟨o, ho, m⟩ := hat i (by rw [HN.out]; exact hlt)
      subst eA
      clear hat
      have HO := Lib.hid (ho.ext S2.out)
      clear ho
      obtain ⟨kind, c, b, A1, n1, c1, D, A2, n2, c2, l, same, nl, ah, bh⟩ := o
      have m0 := m 0 _ rfl; have m1 := m 1 _ rfl; have m2 := m 2 _ rfl; have m3 := m 3 _ rfl; have m4 := m 4 _ rfl; have m5 := m 5 _ rfl; have m6 := m 6 _ rfl; have m7 := m 7 _ rfl; have m8 := m 8 _ rfl
      clear m
      rw [← S2.out.rules.1 bk _ hbk] at m0 m1 m2 m3 m4 m5 m6 m7 m8
      rw [← Nat.add_assoc] at m1 m2 m3 m4 m5 m6 m7 m8
      rw [Nat.add_zero] at m0
      clear HX
      have i0 : (0 : Int) ≤ (i : Int) := by omega
      have i1 : (i : Int) < (n : Int) := by omega
      by_cases q1 : kind < lo
      · go_wp2_with fail
        go_roundw
        case rel => exact ⟨i + 1, by omega, by go_num, S2.out.skip⟩
        case measure => simp [intOf]; omega
      · have q2 : lo ≤ kind := by omega
        clear q1
        by_cases q3 : up < kind
        · go_wp2_with fail
          go_roundw
          case rel => exact ⟨i + 1, by omega, by go_num, S2.out.skip⟩
          case measure => simp [intOf]; omega
        · have q4 : kind ≤ up := by omega
          clear q3
          have S3 := Lib.hid (S2.out.skip (t := 55) (c := #[.int .i64 kind, .int .u8 c, .int .u8 b, .slice A1 n1 c1, .slice A2 n2 c2, .bool same, .bool nl, .int .i64 ah, .int .i64 bh]))
          have HO3 := Lib.hid (HO.out.ext ((St.start wr).skip (t := 55) (c := #[.int .i64 kind, .int .u8 c, .int .u8 b, .slice A1 n1 c1, .slice A2 n2 c2, .bool same, .bool nl, .int .i64 ah, .int .i64 bh])))
          cases nl with
          | true =>
            go_wp2_with fail
            refine (one_nil kind c b A1 n1 c1 D A2 n2 c2 l same true ah bh _ HO3.out).mono ?_
            rintro e w4 ⟨rfl, hh⟩
            have h4 := S3.out.call hh; clear hh S3
            try simp only [List.nil_append, List.cons_append, List.append_eq, Int.toNat_natCast] at h4
            have S4 := Lib.hid h4; clear h4
            go_wp2_with fail
            clear m0 m1 m2 m3 m4 m5 m6 m7 m8
            go_roundw
            case rel => exact ⟨i + 1, by omega, by go_num, S4.out⟩
            case measure => simp [intOf]; omega
          | false =>
            go_wp2_with fail
            refine (one_at kb kind c b A1 n1 c1 D A2 n2 c2 l same false ah bh _ (S3.out.blk mem0) HO3.out).mono ?_
            rintro e w4 ⟨rfl, hh⟩
            have h4 := S3.out.call hh; clear hh S3
            try simp only [List.nil_append, List.cons_append, List.append_eq, Int.toNat_natCast] at h4
            have S4 := Lib.hid h4; clear h4
            go_wp2_with fail
            clear m0 m1 m2 m3 m4 m5 m6 m7 m8
            go_roundw
            case rel => exact ⟨i + 1, by omega, by go_num, S4.out⟩
            case measure => simp [intOf]; omega
    · obtain rfl : n = i := by omega
      go_wp2_with fail
      go_ret
      exact ⟨rfl, S2.out.nil⟩

set_option maxHeartbeats 1000000 in
theorem muls_walk (A : Option Addr) (n cp : Nat) (xs : List T5) (w : World) (h : (Kk.kSlice kOp 88).ok w.heap.size w [.slice A n cp] xs) :
    Calls Try.prog 6 #[.slice A n cp] w fun e w' => e = .returned (.bool true) ∧ Below w.heap.size w w' := by
  obtain ⟨A', c', he, _, hm, hr, hrow⟩ := h
  injection he with he _
  injection he with e1 e2 e3
  subst e1 e2 e3
  have hl : xs.length ≤ 9223372036854775807 := by unfold reachBytes at hr; omega
  have HR := Lib.hid hrow
  clear hrow hm hr
  go_enter Try.func6, Try.ntmps6
  go_wp2_with (go_at_call 18; refine (plays_st 1 1 rfl hl HR.out).mono ?_; rintro e w' ⟨rfl, hb⟩)
  go_ret
  exact ⟨rfl, hb.below⟩

set_option maxHeartbeats 1000000 in
theorem alls_walk (A : Option Addr) (n cp : Nat) (xs : List T5) (w : World) (h : (Kk.kSlice kOp 88).ok w.heap.size w [.slice A n cp] xs) :
    Calls Try.prog 7 #[.slice A n cp] w fun e w' => e = .returned (.bool true) ∧ Below w.heap.size w w' := by
  obtain ⟨A', c', he, _, hm, hr, hrow⟩ := h
  injection he with he _
  injection he with e1 e2 e3
  subst e1 e2 e3
  have hl : xs.length ≤ 9223372036854775807 := by unfold reachBytes at hr; omega
  have HR := Lib.hid hrow
  clear hrow hm hr
  go_enter Try.func7, Try.ntmps7
  go_wp2_with (go_at_call 18; refine (plays_st 1 4 rfl hl HR.out).mono ?_; rintro e w' ⟨rfl, hb⟩)
  go_ret
  exact ⟨rfl, hb.below⟩

end Go.Proofs.Ytgmoaemkdoeeiaa.L5t
