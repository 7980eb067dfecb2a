/- The functions of layer 2's laws (culletlaw02), continued: the steps of a nil object and of tables. -/
import Derived.Test.YtcjbiepdggibaaaL2
import Derived.Deep.RegionHeld3
namespace Go.Proofs.Ytcjbiepdggibaaa.L2
open Go Go.RowKit Go.Proofs.Ytcjbiepdggibaaa Go.Proofs.Ytcjbiepdggibaaa.Mm Go.Proofs.Ytcjbiepdggibaaa.Gf Go.Proofs.Ytcjbiepdggibaaa.G8 Go.Proofs.Ytcjbiepdggibaaa.Tb

set_option maxRecDepth 100000 in
set_option maxHeartbeats 4000000 in
theorem ofNil_calls (k o : Int) (a b : Nat) (n : Int) (w : World) :
    Calls Try.prog 33 #[opV k o a b n] w fun e w' => e = .returned (.bool true) ∧ Below w.heap.size w w' := by
  unfold opV
  by_cases h1 : k = 5
  · subst h1
    go_enter Try.func33, Try.ntmps33
    go_wp2_with (go_at_call 23; refine (tmul_nil _ _ _).mono ?_; rintro e w' ⟨rfl, rfl⟩)
    go_ret
    exact ⟨rfl, (Below.refl _ _).alloc (Nat.le_refl _) _⟩
  · have g1 : (k == 5) = false := beq_eq_false_iff_ne.mpr h1
    clear h1
    by_cases h2 : k = 6
    · subst h2
      go_enter Try.func33, Try.ntmps33
      go_wp2_with (go_at_call 27; refine (tinv_nil _ _).mono ?_; rintro e w' ⟨rfl, rfl⟩)
      go_ret
      exact ⟨rfl, (Below.refl _ _).alloc (Nat.le_refl _) _⟩
    · have g2 : (k == 6) = false := beq_eq_false_iff_ne.mpr h2
      clear h2
      by_cases h3 : k = 7
      · subst h3
        go_enter Try.func33, Try.ntmps33
        go_wp2_with (go_at_call 28; refine (tdiv_nil _ _ _).mono ?_; rintro e w' ⟨rfl, rfl⟩)
        go_ret
        exact ⟨rfl, (Below.refl _ _).alloc (Nat.le_refl _) _⟩
      · have g3 : (k == 7) = false := beq_eq_false_iff_ne.mpr h3
        clear h3
        by_cases h4 : k = 8
        · subst h4
          go_enter Try.func33, Try.ntmps33
          go_wp2_with (go_at_call 25; refine (texp_nil _ _).mono ?_; rintro e w' ⟨rfl, rfl⟩)
          go_ret
          exact ⟨rfl, (Below.refl _ _).alloc (Nat.le_refl _) _⟩
        · have g4 : (k == 8) = false := beq_eq_false_iff_ne.mpr h4
          clear h4
          by_cases h5 : k = 9
          · subst h5
            go_enter Try.func33, Try.ntmps33
            go_wp2_with (go_at_call 26; refine (tlog_nil _ _).mono ?_; rintro e w' ⟨rfl, rfl⟩)
            go_ret
            exact ⟨rfl, (Below.refl _ _).alloc (Nat.le_refl _) _⟩
          · have g5 : (k == 9) = false := beq_eq_false_iff_ne.mpr h5
            clear h5
            by_cases h6 : k = 10
            · subst h6
              go_enter Try.func33, Try.ntmps33
              go_wp2_with (go_at_call 20; refine (trow_nil _ _).mono ?_; rintro e w' ⟨rfl, rfl⟩)
              go_ret
              exact ⟨rfl, (Below.refl _ _).alloc (Nat.le_refl _) _⟩
            · have g6 : (k == 10) = false := beq_eq_false_iff_ne.mpr h6
              clear h6
              go_enter Try.func33, Try.ntmps33
              go_wp2
              go_ret
              exact ⟨rfl, (Below.refl _ _).alloc (Nat.le_refl _) _⟩

theorem TabsAt.alloc {w : World} {b : Nat} (h : TabsAt w b) (o : Obj) : TabsAt (w.alloc o) b := Blk.alloc o h

set_option maxRecDepth 100000 in
set_option maxHeartbeats 4000000 in
theorem byTables_calls (g : Nat) (k o : Int) (a b : Nat) (n : Int) (w : World) (ht : TabsAt w g) (ha : a < 256) (hb : b < 256) :
    Calls Try.prog 34 #[.pointer (some ⟨g, 0, none⟩), opV k o a b n] w fun e w' => e = .returned (.bool true) ∧ Below w.heap.size w w' := by
  unfold opV
  have hgl := ht.lt
  have HT := Lib.hid ht
  clear ht
  by_cases h1 : k = 5
  · subst h1
    go_enter Try.func34, Try.ntmps34
    go_wp2
    go_quiet ((first | (go_at_call 23; exact Calls.quiet_of (tmul_calls g a b _ ((TabsAt.alloc HT.out _).drewN _) ha hb)) | (go_at_call 24; exact Calls.quiet_of_same ((R2.mul_calls a b _ ha hb).mono fun _ _ h => ⟨h.1, h.2.symm⟩))))
    go_wp2
    go_ret
    exact ⟨rfl, ((Below.refl _ _).alloc (Nat.le_refl _) _).drewN'⟩
  · have g1 : (k == 5) = false := beq_eq_false_iff_ne.mpr h1
    clear h1
    by_cases h2 : k = 6
    · subst h2
      go_enter Try.func34, Try.ntmps34
      go_wp2_with (first | (go_at_call 27; refine (tinv_calls g a _ (TabsAt.alloc HT.out _) ha).mono ?_; rintro e w' ⟨rfl, m, rfl⟩; unfold two) | (go_at_call 35; refine (R2.inv_calls a _ ha).mono ?_; rintro e w' ⟨rfl, rfl⟩; unfold two))
      go_ret
      exact ⟨rfl, ((Below.refl _ _).alloc (Nat.le_refl _) _).drewN'⟩
    · have g2 : (k == 6) = false := beq_eq_false_iff_ne.mpr h2
      clear h2
      by_cases h3 : k = 7
      · subst h3
        go_enter Try.func34, Try.ntmps34
        go_wp2_with (first | (go_at_call 28; refine (tdiv_calls g a b _ (TabsAt.alloc HT.out _) ha hb).mono ?_; rintro e w' ⟨rfl, m, rfl⟩; unfold two) | (go_at_call 36; refine (R2.div_calls a b _ ha hb).mono ?_; rintro e w' ⟨rfl, rfl⟩; unfold two))
        go_ret
        exact ⟨rfl, ((Below.refl _ _).alloc (Nat.le_refl _) _).drewN'⟩
      · have g3 : (k == 7) = false := beq_eq_false_iff_ne.mpr h3
        clear h3
        by_cases h4 : k = 8
        · subst h4
          go_enter Try.func34, Try.ntmps34
          go_wp2
          go_quiet ((first | (go_at_call 25; exact Calls.quiet_of (texp_calls g n _ ((TabsAt.alloc HT.out _).drewN _))) | (go_at_call 38; exact Calls.quiet_of_same ((R2.exp_calls n _).mono fun _ _ h => ⟨h.1, h.2.symm⟩))))
          go_wp2
          go_ret
          exact ⟨rfl, ((Below.refl _ _).alloc (Nat.le_refl _) _).drewN'⟩
        · have g4 : (k == 8) = false := beq_eq_false_iff_ne.mpr h4
          clear h4
          by_cases h5 : k = 9
          · subst h5
            by_cases h0 : a = 0
            · have hl : lo a = .tuple #[.int .i64 0, .int .i64 20] := by rw [h0, lo_zero]
              clear h0
              go_enter Try.func34, Try.ntmps34
              go_wp2_with (first | (go_at_call 26; refine (tlog_calls g a _ (TabsAt.alloc HT.out _) ha).mono ?_; rintro e w' ⟨rfl, rfl⟩) | (go_at_call 39; refine (R2.log_calls a _ ha).mono ?_; rintro e w' ⟨rfl, rfl⟩))
              go_ret
              exact ⟨rfl, (Below.refl _ _).alloc (Nat.le_refl _) _⟩
            · have hl : lo a = .tuple #[.int .i64 ((lg a : Nat) : Int), .int .i64 0] := lo_pos h0
              clear h0
              go_enter Try.func34, Try.ntmps34
              go_wp2_with (first | (go_at_call 26; refine (tlog_calls g a _ (TabsAt.alloc HT.out _) ha).mono ?_; rintro e w' ⟨rfl, rfl⟩) | (go_at_call 39; refine (R2.log_calls a _ ha).mono ?_; rintro e w' ⟨rfl, rfl⟩))
              go_ret
              exact ⟨rfl, (Below.refl _ _).alloc (Nat.le_refl _) _⟩
          · have g5 : (k == 9) = false := beq_eq_false_iff_ne.mpr h5
            clear h5
            by_cases h6 : k = 10
            · subst h6
              go_enter Try.func34, Try.ntmps34
              go_wp2
              have hc : (w.alloc (.cells #[.int .i64 10, .int .i64 o, .int .u8 (a : Int), .int .u8 (b : Int), .int .i64 n] 57)).cell? ⟨w.heap.size, 2, none⟩ = some (.int .u8 (a : Int)) := by simp
              have HT0 : Hid (TabsAt (w.alloc (.cells #[.int .i64 10, .int .i64 o, .int .u8 (a : Int), .int .u8 (b : Int), .int .i64 n] 57)) g) := TabsAt.alloc HT.out _
              have HB0 : Hid (Below w.heap.size w (w.alloc (.cells #[.int .i64 10, .int .i64 o, .int .u8 (a : Int), .int .u8 (b : Int), .int .i64 n] 57))) := (Below.refl _ _).alloc (Nat.le_refl _) _
              have hsz : w.heap.size < (w.alloc (.cells #[.int .i64 10, .int .i64 o, .int .u8 (a : Int), .int .u8 (b : Int), .int .i64 n] 57)).heap.size := by simp
              generalize w.alloc (.cells #[.int .i64 10, .int .i64 o, .int .u8 (a : Int), .int .u8 (b : Int), .int .i64 n] 57) = w0 at *
              go_region_held3 (fun w' => w'.cell? ⟨w.heap.size, 2, none⟩ = some (.int .u8 (a : Int))) (first | go_keep | exact (hb1.cell (p := ⟨w.heap.size, 2, none⟩) hsz).trans hc | exact (hb2.cell (p := ⟨w.heap.size, 2, none⟩) (by have := hb1.size; simp at this ⊢; omega)).trans (by assumption)) (first
                | (go_at_call 20; refine (trow_calls g a _ (by exact HT0.out) ha).mono ?_; rintro e w1 ⟨rfl, hr1, hb1⟩)
                | (go_at_call 21; refine (R2.row_calls a _ ha).mono ?_; rintro e w2 ⟨rfl, hr2, hb2⟩)
                | (go_at_call 19; refine (same_calls _ _ 256 256 256 (R2.rowL a) _ (R2.rowL_length a) (by decide) (Rd.of_blk (hr1.below hb2 hr1.lt)) (Rd.of_blk hr2)).mono ?_; rintro e w3 ⟨rfl, n3, rfl⟩))
              go_wp2
              go_ret
              have hz1 := hb1.size
              exact ⟨rfl, ((HB0.out.drew.trans (hb1.mono (Nat.le_of_lt hsz))).trans (hb2.mono (by simp at hz1; omega))).drewN'⟩
            · have g6 : (k == 10) = false := beq_eq_false_iff_ne.mpr h6
              clear h6
              go_enter Try.func34, Try.ntmps34
              go_wp2
              go_ret
              exact ⟨rfl, (Below.refl _ _).alloc (Nat.le_refl _) _⟩

/-- A step of a script: kind, object, two elements, a number. -/
abbrev kOp : Kk.K (Int × Int × Nat × Nat × Int × Unit) := Kk.kPair (Kk.kInt .i64) (Kk.kPair (Kk.kInt .i64) (Kk.kPair Kk.kByte (Kk.kPair Kk.kByte (Kk.kPair (Kk.kInt .i64) Kk.kUnit))))
theorem kOp_ok {B : Nat} {w : World} {cs : List Value} {x : Int × Int × Nat × Nat × Int × Unit} (h : kOp.ok B w cs x) :
    cs = [.int .i64 x.1, .int .i64 x.2.1, .int .u8 (x.2.2.1 : Int), .int .u8 (x.2.2.2.1 : Int), .int .i64 x.2.2.2.2.1] ∧ x.2.2.1 < 256 ∧ x.2.2.2.1 < 256 := by
  obtain ⟨c1, _, rfl, _, ⟨rfl, _⟩, c2, _, rfl, _, ⟨rfl, _⟩, c3, _, rfl, _, ⟨rfl, h3⟩, c4, _, rfl, _, ⟨rfl, h4⟩, c5, _, rfl, _, ⟨rfl, _⟩, h6⟩ := h
  have h6' : _ = [] := h6
  subst h6'
  exact ⟨rfl, h3, h4⟩

/-- The cells of a row of steps. -/
theorem ops_at {B : Nat} {w : World} {A : Option Addr} {xs : List (Int × Int × Nat × Nat × Int × Unit)} (h : Kk.Row kOp B w A xs) (h0 : 0 < xs.length) :
    ∃ bk off, A = some ⟨bk, off, none⟩ ∧ bk < B ∧ ∀ i (hi : i < xs.length), xs[i].2.2.1 < 256 ∧ xs[i].2.2.2.1 < 256 ∧ w.cell? ⟨bk, off + i * 5, none⟩ = some (.int .i64 xs[i].1) ∧ w.cell? ⟨bk, off + (i * 5 + 1), none⟩ = some (.int .i64 xs[i].2.1) ∧
      w.cell? ⟨bk, off + (i * 5 + 2), none⟩ = some (.int .u8 (xs[i].2.2.1 : Int)) ∧ w.cell? ⟨bk, off + (i * 5 + 3), none⟩ = some (.int .u8 (xs[i].2.2.2.1 : Int)) ∧ w.cell? ⟨bk, off + (i * 5 + 4), none⟩ = some (.int .i64 xs[i].2.2.2.2.1) := by
  obtain ⟨bk, off, hA, hb, hc⟩ := h h0
  refine ⟨bk, off, hA, hb, fun i hi => ?_⟩
  obtain ⟨cs, hok, hcell⟩ := hc i hi
  obtain ⟨rfl, h3, h4⟩ := kOp_ok hok
  exact ⟨h3, h4, hcell 0 _ rfl, hcell 1 _ rfl, hcell 2 _ rfl, hcell 3 _ rfl, hcell 4 _ rfl⟩

set_option maxRecDepth 100000 in
set_option maxHeartbeats 4000000 in
theorem plays_calls (A : Option Addr) (c : Nat) (xs : List (Int × Int × Nat × Nat × Int × Unit)) (lo up : Int) (w : World) (hl : xs.length ≤ 9223372036854775807) (hx : Kk.Row kOp w.heap.size w A xs) :
    Calls Try.prog 29 #[.slice A xs.length c, .int .i64 lo, .int .i64 up] w fun e w' => e = .returned (.bool true) ∧ Below w.heap.size w w' := by
  have HX := Lib.hid hx
  clear hx
  go_enter Try.func29, Try.ntmps29
  go_wp2_with (first | (go_at_call 12; refine (awake_calls _).mono ?_; rintro e w' ⟨rfl, rfl⟩) | (go_at_call 18; refine (new_calls _).mono ?_; rintro e w1 ⟨rfl, ht, hb⟩))
  have HT := Lib.hid ht; have HB := Lib.hid hb
  clear ht hb
  go_loopw [8] (fun vi wr => ∃ i : Nat, i ≤ xs.length ∧ vi = .int .i64 i ∧ TabsAt wr w.heap.size ∧ Below w.heap.size w wr) (fun vi _ => xs.length - (intOf vi).toNat)
  case atStart => exact ⟨0, by omega, rfl, HT.out, HB.out⟩
  case round =>
    clear HT HB
    obtain ⟨i, hi, rfl, ht, hb⟩ := hrel
    have HT := Lib.hid ht
    have HB := Lib.hid hb
    have hsz := ht.lt
    have hsz2 := hb.size
    clear ht hb
    by_cases hlt : i < xs.length
    · obtain ⟨bk, off, rfl, hbk, hat⟩ := ops_at HX.out (by omega)
      obtain ⟨ha, hbb, m0, m1, m2, m3, m4⟩ := hat i hlt
      rw [← HB.out.cell (p := ⟨bk, _, none⟩) hbk] at m0 m1 m2 m3 m4
      rw [← Nat.add_assoc] at m1 m2 m3 m4
      clear hat HX
      generalize xs[i].1 = k at *
      generalize xs[i].2.1 = o at *
      generalize xs[i].2.2.1 = a at *
      generalize xs[i].2.2.2.1 = b at *
      generalize xs[i].2.2.2.2.1 = n at *
      by_cases c1 : k < lo
      · go_wp2_with fail
        go_roundw
        case rel => exact ⟨i + 1, by omega, by go_num, TabsAt.alloc HT.out _, HB.out.alloc hsz2 _⟩
        case measure => simp [intOf]; omega
      · have c2 : lo ≤ k := by omega
        clear c1
        by_cases c3 : up < k
        · go_wp2_with fail
          go_roundw
          case rel => exact ⟨i + 1, by omega, by go_num, TabsAt.alloc HT.out _, HB.out.alloc hsz2 _⟩
          case measure => simp [intOf]; omega
        · have c4 : k ≤ up := by omega
          clear c3
          by_cases c5 : o = 0
          · have c6 : (o == 0) = true := beq_iff_eq.mpr c5
            have c7 : (o != 0) = false := bne_eq_false_iff_eq.mpr c5
            clear c5
            go_wp2_with (first
              | (go_at_call 32; refine (plain_calls k o a b n _ ha hbb).mono ?_; rintro e w2 ⟨rfl, hb2⟩; have HB2 := Lib.hid hb2; obtain ⟨hc2, hf2⟩ := bcell hb2; clear hb2)
              | (go_at_call 34; refine (byTables_calls w.heap.size k o a b n _ (Blk.below (TabsAt.alloc HT.out _) HB2.out (by simp; omega)) ha hbb).mono ?_; rintro e w3 ⟨rfl, hb3⟩; have HB3 := Lib.hid hb3; clear hb3))
            have z2 := HB2.out.size
            have hb3 := (HB.out.alloc hsz2 _).trans (HB2.out.mono (by simp; omega)) |>.trans (HB3.out.mono (by simp at z2; omega))
            have ht3 : TabsAt w3 w.heap.size := Blk.below (Blk.below (TabsAt.alloc HT.out _) HB2.out (by simp; omega)) HB3.out (by simp at z2; omega)
            go_roundw
            case rel => exact ⟨i + 1, by omega, by go_num, ht3, hb3⟩
            case measure => simp [intOf]; omega
          · have c6 : (o == 0) = false := beq_eq_false_iff_ne.mpr c5
            have c7 : (o != 0) = true := bne_iff_ne.mpr c5
            clear c5
            go_wp2_with (first
              | (go_at_call 32; refine (plain_calls k o a b n _ ha hbb).mono ?_; rintro e w2 ⟨rfl, hb2⟩; have HB2 := Lib.hid hb2; obtain ⟨hc2, hf2⟩ := bcell hb2; clear hb2)
              | (go_at_call 33; refine (ofNil_calls k o a b n _).mono ?_; rintro e w3 ⟨rfl, hb3⟩; have HB3 := Lib.hid hb3; clear hb3))
            have z2 := HB2.out.size
            have hb3 := (HB.out.alloc hsz2 _).trans (HB2.out.mono (by simp; omega)) |>.trans (HB3.out.mono (by simp at z2; omega))
            have ht3 : TabsAt w3 w.heap.size := Blk.below (Blk.below (TabsAt.alloc HT.out _) HB2.out (by simp; omega)) HB3.out (by simp at z2; omega)
            go_roundw
            case rel => exact ⟨i + 1, by omega, by go_num, ht3, hb3⟩
            case measure => simp [intOf]; omega
    · obtain rfl : i = xs.length := by omega
      clear HX
      go_wp2_with fail
      refine (byTables_calls w.heap.size 5 0 77 200 0 _ HT.out (by decide) (by decide)).mono ?_
      rintro e w2 ⟨rfl, hb2⟩
      have HB2 := Lib.hid hb2
      clear hb2
      have HT2 := Lib.hid (HT.out.below HB2.out hsz)
      go_wp2_with fail
      refine (byTables_calls w.heap.size 9 0 29 0 0 _ HT2.out (by decide) (by decide)).mono ?_
      rintro e w3 ⟨rfl, hb3⟩
      have z2 := HB2.out.size
      have HB4 := Lib.hid ((HB.out.trans (HB2.out.mono hsz2)).trans (hb3.mono (by omega)))
      clear hb3
      go_wp2_with fail
      go_ret
      exact ⟨rfl, HB4.out⟩

end Go.Proofs.Ytcjbiepdggibaaa.L2
