/- Layer 2's other calls (gf8): powers, inverses, quotients, the tables and their methods: each function's contract, by its walk. -/
import Derived.Test.YthfenafhdigniaaG8
import Derived.Test.YthfenafhdigniaaTb
namespace Go.Proofs.Ythfenafhdigniaa.G8
set_option linter.unusedSimpArgs false
set_option linter.unusedVariables false
open Go Go.RowKit Go.Proofs.Ythfenafhdigniaa Go.Proofs.Ythfenafhdigniaa.Mm Go.Proofs.Ythfenafhdigniaa.Tb Go.Proofs.Ythfenafhdigniaa.Gf

theorem landi (r : Nat) (h : r < 256) : Go.bits .and .i64 (r : Int) 1 = ((r % 2 : Nat) : Int) := by
  rw [show (1 : Int) = ((1 : Nat) : Int) from rfl, Bt.andi64 (by omega) (by decide), Nat.and_one_is_mod]
theorem sq_step0 (n x r p : Nat) (h : r % 2 = 0) : Gf.sq (n + 1) x r p = Gf.sq n (Gf.gm x x) (r / 2) p := by
  show Gf.sq n _ _ _ = _; rw [if_neg (by omega)]
theorem sq_step1 (n x r p : Nat) (h : r % 2 = 1) : Gf.sq (n + 1) x r p = Gf.sq n (Gf.gm x x) (r / 2) (Gf.gm p x) := by
  show Gf.sq n _ _ _ = _; rw [if_pos h]
theorem sq_zero : ∀ (n x p : Nat), Gf.sq n x 0 p = p
  | 0, _, _ => rfl
  | n + 1, x, p => by rw [sq_step0 _ _ _ _ (by decide)]; exact sq_zero n _ p

set_option maxRecDepth 100000 in
set_option maxHeartbeats 1000000 in
theorem power_calls (a : Nat) (r : Int) (w : World) (ha : a < 256) (hr0 : 0 ≤ r) (hr : r < 256) :
    Calls Try.prog 31 #[.int .u8 a, .int .i64 r] w fun e w' => e = .returned (.int .u8 ((Gf.pw a r.toNat : Nat) : Int)) ∧ w = w' := by
  obtain ⟨r, rfl⟩ := Int.eq_ofNat_of_zero_le hr0
  have hr : r < 256 := by omega
  rw [Int.toNat_natCast]
  clear hr0
  go_enter Try.func31, Try.ntmps31
  go_wp2
  go_loopw [0, 1, 5] (fun vx vr vp wr => ∃ n x r' p : Nat, vx = .int .u8 x ∧ vr = .int .i64 r' ∧ vp = .int .u8 p ∧ r' < 2 ^ n ∧ r' < 256 ∧ x < 256 ∧ p < 256 ∧ Gf.pw a r = Gf.sq n x r' p ∧ w = wr) (fun _ vr _ _ => (intOf vr).toNat)
  case atStart => exact ⟨8, a, r, 1, rfl, rfl, rfl, by simpa using hr, hr, ha, by decide, (Gf.sq_pw ha (by simpa using hr)).symm, rfl⟩
  case round =>
    obtain ⟨n, x, r', p, rfl, rfl, rfl, hn, hr', hx, hp, heq, rfl⟩ := hrel
    have HEQ := Lib.hid heq; have HN := Lib.hid hn
    clear heq hn
    have hxx := Gf.gm_lt x hx
    have hpx := Gf.gm_lt x hp
    by_cases h0 : r' = 0
    · have H0 := Lib.hid h0
      have hz : r' < 1 := by omega
      clear h0
      go_wp2
      go_ret
      have := HEQ.out
      rw [H0.out, sq_zero] at this
      refine ⟨?_, rfl⟩
      rw [this]; rfl
    · have hpos : 0 < r' := by omega
      obtain ⟨n, rfl⟩ : ∃ m, n = m + 1 := by
        refine ⟨n - 1, ?_⟩
        have := HN.out
        cases n with
        | zero => simp at this; omega
        | succ n => rfl
      have hn2 : r' / 2 < 2 ^ n := by have := HN.out; rw [Nat.pow_succ] at this; omega
      have HN2 := Lib.hid hn2
      clear hn2
      have l1 := landi r' hr'
      by_cases h1 : r' % 2 = 0
      · have HE2 := Lib.hid (HEQ.out.trans (sq_step0 n x r' p h1))
        rw [h1] at l1
        clear h1 h0
        go_wp2_with (go_at_call 17; refine (mul_calls _ _ _ hx hx).mono ?_; rintro e w' ⟨rfl, rfl⟩)
        go_roundw
        case rel => exact ⟨n, Gf.gm x x, r' / 2, p, rfl, by go_num, rfl, HN2.out, by omega, hxx, hp, HE2.out, trivial⟩
        case measure => simp [intOf]; omega
      · have h1' : r' % 2 = 1 := by omega
        have HE2 := Lib.hid (HEQ.out.trans (sq_step1 n x r' p h1'))
        rw [h1'] at l1
        clear h1 h0 h1'
        go_wp2_with ((go_at_call 17; (first | (with_reducible refine (mul_calls _ _ _ hp hx).mono ?_) | (with_reducible refine (mul_calls _ _ _ hx hx).mono ?_)); rintro e w' ⟨rfl, rfl⟩))
        go_roundw
        case rel => exact ⟨n, Gf.gm x x, r' / 2, Gf.gm p x, rfl, by go_num, rfl, HN2.out, by omega, hxx, hpx, HE2.out, trivial⟩
        case measure => simp [intOf]; omega

theorem tmod_neg (n : Int) (h : n < 0) : Int.tmod n 255 = -((-n) % 255) := by
  rw [show n = -(-n) from by omega, Int.neg_tmod, Int.tmod_eq_emod_of_nonneg (by omega)]
  simp
theorem tmod_cases (n : Int) : (0 ≤ Int.tmod n 255 ∧ Int.tmod n 255 < 255 ∧ n % 255 = Int.tmod n 255) ∨ (Int.tmod n 255 < 0 ∧ -255 < Int.tmod n 255 ∧ n % 255 = Int.tmod n 255 + 255) := by
  by_cases h : n < 0
  · rw [tmod_neg n h]; omega
  · rw [Int.tmod_eq_emod_of_nonneg (by omega)]; omega


set_option maxHeartbeats 1000000 in
theorem inv_calls (a : Nat) (w : World) (ha : a < 256) :
    Calls Try.prog 25 #[.int .u8 a] w fun e w' => e = .returned (two (iv a)) ∧ w = w' := by
  by_cases h : a = 0
  · subst h
    go_enter Try.func25, Try.ntmps25
    go_wp2
    go_ret2
    exact ⟨rfl, rfl⟩
  · have h' : (((a : Nat) : Int) == 0) = false := beq_eq_false_iff_ne.mpr (by omega)
    have hi : Hid (iv a = (Gf.pw a 254, 0)) := if_neg h
    clear h
    go_enter Try.func25, Try.ntmps25
    go_wp2_with (go_at_call 31; refine (power_calls a 254 _ ha (by decide) (by decide)).mono ?_; rintro e w' ⟨rfl, rfl⟩)
    go_ret2
    rw [hi.out]
    exact ⟨rfl, rfl⟩

set_option maxRecDepth 100000 in
set_option maxHeartbeats 1000000 in
theorem new_calls (w : World) :
    Calls Try.prog 32 #[] w fun e w' => e = .returned (.pointer (some ⟨w.heap.size, 0, none⟩)) ∧ Blk w' w.heap.size 72 tabs ∧ Below w.heap.size w w' := by
  go_enter Try.func32, Try.ntmps32
  go_wp2_with (first | ((with_reducible refine at_slot (N := 4) rfl ?_); refine ev rfl (build_run _ _ (tab 0) rfl (by kernel_rfl)) ?_) | ((with_reducible refine at_slot (N := 5) rfl ?_); refine ev rfl (box_run _ _ _ rfl rfl) ?_))
  go_loopw [2, 6] (fun x i wr => ∃ k : Nat, k ≤ 255 ∧ i = .int .i64 k ∧ x = .int .u8 ((Gf.pw 2 k : Nat) : Int) ∧ Blk wr w.heap.size 72 (tab k) ∧ Below w.heap.size w wr) (fun _ i _ => 255 - (intOf i).toNat)
  case atStart => exact ⟨0, by omega, rfl, rfl, Blk.new _ _ _, (Below.refl _ _).alloc (Nat.le_refl _) _⟩
  case round =>
    obtain ⟨k, hk, rfl, rfl, ht, hb⟩ := hrel
    have hp : Gf.pw 2 k < 256 := Gf.pw_lt (by decide) k
    by_cases hlt : k < 255
    · have h1 := ht.cell (i := k) (tab_get (by omega))
      have h2 := ht.cell (i := k + 255) (tab_get (by omega))
      have h3 := ht.cell (i := 510 + Gf.pw 2 k) (tab_get (by omega))
      have f1 := ht.free (i := k)
      have f2 := ht.free (i := k + 255)
      have f3 := ht.free (i := 510 + Gf.pw 2 k)
      go_wp2_with fail
      go_region
      go_wp2_with (go_at_call 17; refine (mul_calls _ 2 _ hp (by decide)).mono ?_; rintro e w' ⟨rfl, rfl⟩)
      go_roundw
      case rel =>
        clear h1 h2 h3 f1 f2 f3
        exact ⟨k + 1, by omega, by go_num, rfl, by rw [← tab_step hlt]; exact (((ht.set _).set _).set _).drew, (((hb.setCell (Nat.le_refl _) _).setCell (Nat.le_refl _) _).setCell (Nat.le_refl _) _).drew⟩
      case measure => simp [intOf]; omega
    · obtain rfl : k = 255 := by omega
      go_wp2
      go_ret
      exact ⟨rfl, ht, hb⟩

/-- The tables lie at b. -/
abbrev TabsAt (w : World) (b : Nat) : Prop := Blk w b 72 tabs

set_option maxRecDepth 100000 in
set_option maxHeartbeats 1000000 in
theorem tmul_calls (b x y : Nat) (w : World) (ht : TabsAt w b) (hx : x < 256) (hy : y < 256) :
    Calls Try.prog 33 #[.pointer (some ⟨b, 0, none⟩), .int .u8 x, .int .u8 y] w fun e w' => e = .returned (.int .u8 ((Gf.gm x y : Nat) : Int)) ∧ ∃ n, w' = w.drewN n := by
  by_cases hx0 : x = 0
  · subst hx0
    have hd : Hid (Gf.gm 0 y = 0) := Gf.gm_zero_left y
    clear ht
    go_enter Try.func33, Try.ntmps33
    go_wp2
    go_ret
    rw [hd.out]
    exact ⟨rfl, 0, rfl⟩
  · have hx1 : (((x : Nat) : Int) == 0) = false := beq_eq_false_iff_ne.mpr (by omega)
    by_cases hy0 : y = 0
    · subst hy0
      have hd : Hid (Gf.gm x 0 = 0) := Gf.gm_zero_right x
      clear ht hx0
      go_enter Try.func33, Try.ntmps33
      go_wp2
      go_ret
      rw [hd.out]
      exact ⟨rfl, 0, rfl⟩
    · have hy1 : (((y : Nat) : Int) == 0) = false := beq_eq_false_iff_ne.mpr (by omega)
      have h1 := ht.cell (log_at hx)
      have h2 := ht.cell (log_at hy)
      have lx := lg_lt x
      have ly := lg_lt y
      have h3 := ht.cell (exp_at (i := lg x + lg y) (by omega))
      have hd : Hid (Gf.pw 2 ((lg x + lg y) % 255) = Gf.gm x y) := mul_log hx hy hx0 hy0
      generalize lg x = p at *
      generalize lg y = q at *
      have s1 : IntKind.i64.wrap ((p : Int) + (q : Int)) = (p : Int) + (q : Int) := IntWalk.i64_in _ (by omega)
      have s2 : 0 ≤ (p : Int) + (q : Int) := by omega
      have s3 : ((p : Int) + (q : Int)).toNat = p + q := by omega
      have s4 : (p : Int) + (q : Int) < 510 := by omega
      generalize Gf.pw 2 ((p + q) % 255) = z at *
      clear ht hx0 hy0
      go_enter Try.func33, Try.ntmps33
      go_wp2
      go_quiet (fail)
      go_wp2
      go_ret
      rw [← hd.out]
      exact ⟨rfl, _, rfl⟩

end Go.Proofs.Ythfenafhdigniaa.G8
