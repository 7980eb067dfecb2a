/- The whole, stage 9: mul8, clone, strings of bytes. -/
import Derived.Test.YtdlmkhlkgklkaaaKh
import Derived.Laws.BytesArg
namespace Go.Proofs.Ytdlmkhlkgklkaaa.Sk
set_option linter.unusedSimpArgs false
set_option linter.unusedVariables false
open Go Go.RowKit Go.Proofs.Ytdlmkhlkgklkaaa Go.Proofs.Ytdlmkhlkgklkaaa.Mm Go.Proofs.Ytdlmkhlkgklkaaa.Gf Go.Proofs.Ytdlmkhlkgklkaaa.Wr Go.Proofs.Ytdlmkhlkgklkaaa.Nb Go.Proofs.Ytdlmkhlkgklkaaa.St

theorem low9 (x : Nat) (h : x < 256) : Go.bits .and .i64 (x : Int) 1 = ((x % 2 : Nat) : Int) := by
  rw [show (1 : Int) = ((1 : Nat) : Int) from rfl, Bt.andi64 (by omega) (by decide), Nat.and_one_is_mod]
theorem div9 (a n : Nat) : (a : Int) / 2 ^ n = ((a / 2 ^ n : Nat) : Int) := by simp
theorem and9 (a : Nat) (h : a < 256) : Go.bits .and .i64 (2 * (a : Int)) 256 = if a < 128 then 0 else 256 := by
  rw [show 2 * (a : Int) = ((2 * a : Nat) : Int) from by omega, show (256 : Int) = ((256 : Nat) : Int) from rfl, Bt.andi64 (by omega) (by decide)]
  have hh : ∀ x : Fin 256, ((2 * x.val) &&& 256 = if x.val < 128 then 0 else 256) := by decide +kernel
  have := hh ⟨a, h⟩
  simp only at this
  rw [this]; split <;> rfl
theorem hi9 (a : Nat) (h : ¬ a < 128) (h' : a < 256) : Go.bits .xor .i64 (2 * (a : Int)) 285 = ((Gf.xt a : Nat) : Int) := by
  rw [show 2 * (a : Int) = ((2 * a : Nat) : Int) from by omega, show (285 : Int) = ((285 : Nat) : Int) from rfl, Bt.xori64 (by omega) (by decide)]
  unfold Gf.xt; rw [if_neg h]
theorem lo9 (a : Nat) (h : a < 128) : (2 * (a : Int)) = ((Gf.xt a : Nat) : Int) := by unfold Gf.xt; rw [if_pos h]; omega
theorem ml9 (t x b s : Nat) (h : t < 8) : Gf.ml (8 - t) x (b / 2 ^ t) s = Gf.ml (8 - (t + 1)) (Gf.xt x) (b / 2 ^ (t + 1)) (if b / 2 ^ t % 2 = 1 then s ^^^ x else s) := by
  rw [show 8 - t = (8 - (t + 1)) + 1 by omega]
  show Gf.ml _ _ (b / 2 ^ t / 2) _ = _
  rw [Nat.div_div_eq_div_mul, ← Nat.pow_succ]

set_option maxRecDepth 100000 in
set_option maxHeartbeats 2000000 in
theorem mul8_calls (a b : Nat) (w : World) (ha : a < 256) (hb : b < 256) :
    Calls Try.prog 4 #[.int .u8 (a : Int), .int .u8 (b : Int)] w fun e w' => e = .returned (.int .u8 ((gm a b : Nat) : Int)) ∧ w = w' := by
  have c0 : IntKind.i64.wrap (a : Int) = a := Bt.wrap_i64 _ (by omega) (by omega)
  have c1 : IntKind.i64.wrap (b : Int) = b := Bt.wrap_i64 _ (by omega) (by omega)
  go_enter Try.func4, Try.ntmps4
  go_wp2
  clear c0 c1
  go_loop [5, 7, 8] (fun vx vs vt => ∃ t x s : Nat, t ≤ 8 ∧ vt = .int .i64 t ∧ vx = .int .i64 x ∧ vs = .int .i64 s ∧ x < 256 ∧ s < 256 ∧ gm a b = Gf.ml (8 - t) x (b / 2 ^ t) s) (fun _ _ vt => 8 - (intOf vt).toNat)
  case atStart => exact ⟨0, a, 0, by omega, rfl, rfl, rfl, ha, by decide, by simp [gm]⟩
  case round =>
    obtain ⟨t, x, s, ht, rfl, rfl, rfl, hx, hs, heq⟩ := hrel
    have HEQ := Lib.hid heq; clear heq
    by_cases hlt : t < 8
    · have hq : b / 2 ^ t < 256 := Nat.lt_of_le_of_lt (Nat.div_le_self _ _) hb
      have l1 := low9 _ hq
      rw [← div9] at l1
      have c1 : IntKind.u64.wrap (t : Int) = t := Bt.wrap_u64 _ (by omega) (by omega)
      have l2 := and9 x hx
      have d2 : IntKind.i64.wrap ((x : Int) * 2) = 2 * (x : Int) := by rw [Bt.wrap_i64 _ (by omega) (by omega)]; omega
      have x1 : Go.bits .xor .i64 (s : Int) (x : Int) = ((s ^^^ x : Nat) : Int) := Bt.xori64 (by omega) (by omega)
      have hxx := Gf.xt_lt hx
      have hsx : s ^^^ x < 256 := Gf.xor_lt hs hx
      have HM := Lib.hid (HEQ.out.trans (ml9 t x b s hlt))
      have t1 : (t : Int) < 8 := by omega
      have t0 : (0 : Int) ≤ (t : Int) := by omega
      by_cases hbit : b / 2 ^ t % 2 = 1
      · rw [hbit] at l1
        rw [if_pos hbit] at HM
        clear hbit
        by_cases h2 : x < 128
        · rw [if_pos h2] at l2
          have x2 := Lib.hid (lo9 x h2)
          go_wp2
          go_round
          case rel => exact ⟨t + 1, Gf.xt x, s ^^^ x, by omega, by go_num, by rw [← x2.out], rfl, hxx, hsx, HM.out⟩
          case measure => simp [intOf]; omega
        · rw [if_neg h2] at l2
          have x2 := hi9 x h2 hx
          go_wp2
          go_round
          case rel => exact ⟨t + 1, Gf.xt x, s ^^^ x, by omega, by go_num, rfl, rfl, hxx, hsx, HM.out⟩
          case measure => simp [intOf]; omega
      · rw [show b / 2 ^ t % 2 = 0 from by omega] at l1
        rw [if_neg hbit] at HM
        clear hbit
        by_cases h2 : x < 128
        · rw [if_pos h2] at l2
          have x2 := Lib.hid (lo9 x h2)
          go_wp2
          go_round
          case rel => exact ⟨t + 1, Gf.xt x, s, by omega, by go_num, by rw [← x2.out], rfl, hxx, hs, HM.out⟩
          case measure => simp [intOf]; omega
        · rw [if_neg h2] at l2
          have x2 := hi9 x h2 hx
          go_wp2
          go_round
          case rel => exact ⟨t + 1, Gf.xt x, s, by omega, by go_num, rfl, rfl, hxx, hs, HM.out⟩
          case measure => simp [intOf]; omega
    · obtain rfl : t = 8 := by omega
      have HM : Hid (gm a b = s) := Lib.hid (by rw [HEQ.out]; rfl)
      have c3 : (s : Int) % 256 = (s : Int) := by omega
      have C3 := Lib.hid c3
      clear c3
      clear HEQ
      go_wp2
      go_ret
      refine ⟨?_, rfl⟩
      rw [HM.out]; rfl

set_option maxRecDepth 100000 in
set_option maxHeartbeats 1000000 in
theorem new9_0 (w : World) : Calls Try.prog 15 #[.int .i64 0] w fun e w' => ∃ p S, e = .returned (.tuple #[.pointer (some ⟨p, 0, none⟩), .int .i64 0]) ∧ SetE p 0 S ∧ St w w' [] S := by
  have S0 := Lib.hid (St.start w)
  go_enter Try.func15, Try.ntmps15
  go_wp2_with fail
  refine (Tk.new_st _).mono ?_
  rintro e w1 ⟨kb, rfl, hh⟩
  have h1 := S0.out.call hh; clear hh S0
  try simp only [List.nil_append, List.cons_append, List.append_eq, Int.toNat_natCast] at h1
  have S1 := Lib.hid h1; clear h1
  go_wp2_with ((with_reducible refine at_slot (N := 22) rfl ?_); refine box_law rfl _ _ #[.iface 24 (.pointer (some ⟨kb, 0, none⟩)), .int .i64 0] rfl rfl S1.out ?_; intro p w2 h2; (try simp only [World.size_alloc, List.nil_append, List.cons_append, List.append_eq] at h2); have S2 := Lib.hid h2; clear h2 S1)
  go_ret2
  exact ⟨p, _, rfl, .inl ⟨rfl, kb, rfl⟩, S2.out⟩
set_option maxRecDepth 100000 in
set_option maxHeartbeats 1000000 in
theorem new9_1 (w : World) : Calls Try.prog 15 #[.int .i64 1] w fun e w' => ∃ p S, e = .returned (.tuple #[.pointer (some ⟨p, 0, none⟩), .int .i64 0]) ∧ SetE p 1 S ∧ St w w' [] S := by
  have S0 := Lib.hid (St.start w)
  go_enter Try.func15, Try.ntmps15
  go_wp2_with fail
  refine (L6.new_st _).mono ?_
  rintro e w1 ⟨x, rfl, hh⟩
  have h1 := S0.out.call hh; clear hh S0
  try simp only [List.nil_append, List.cons_append, List.append_eq, Int.toNat_natCast] at h1
  have S1 := Lib.hid h1; clear h1
  go_wp2_with ((with_reducible refine at_slot (N := 22) rfl ?_); refine box_law rfl _ _ #[.iface 26 (.pointer (some x)), .int .i64 1] rfl rfl S1.out ?_; intro p w2 h2; (try simp only [World.size_alloc, List.nil_append, List.cons_append, List.append_eq] at h2); have S2 := Lib.hid h2; clear h2 S1)
  go_ret2
  exact ⟨p, _, rfl, .inr (.inl ⟨rfl, x, rfl⟩), S2.out⟩
set_option maxRecDepth 100000 in
set_option maxHeartbeats 1000000 in
theorem new9_2 (w : World) : Calls Try.prog 15 #[.int .i64 2] w fun e w' => ∃ p S, e = .returned (.tuple #[.pointer (some ⟨p, 0, none⟩), .int .i64 0]) ∧ SetE p 2 S ∧ St w w' [] S := by
  have S0 := Lib.hid (St.start w)
  go_enter Try.func15, Try.ntmps15
  go_wp2_with fail
  refine (Sl.new_st _).mono ?_
  rintro e w1 ⟨x, rfl, hh⟩
  have h1 := S0.out.call hh; clear hh S0
  try simp only [List.nil_append, List.cons_append, List.append_eq, Int.toNat_natCast] at h1
  have S1 := Lib.hid h1; clear h1
  go_wp2_with ((with_reducible refine at_slot (N := 22) rfl ?_); refine box_law rfl _ _ #[.iface 28 (.pointer (some x)), .int .i64 2] rfl rfl S1.out ?_; intro p w2 h2; (try simp only [World.size_alloc, List.nil_append, List.cons_append, List.append_eq] at h2); have S2 := Lib.hid h2; clear h2 S1)
  go_ret2
  exact ⟨p, _, rfl, .inr (.inr ⟨rfl, x, rfl⟩), S2.out⟩
/-- A set over backend j. -/
theorem new9_set {j : Nat} (hj : j < 3) (w : World) : Calls Try.prog 15 #[.int .i64 (j : Int)] w fun e w' => ∃ p S, e = .returned (.tuple #[.pointer (some ⟨p, 0, none⟩), .int .i64 0]) ∧ SetE p j S ∧ St w w' [] S := by
  rcases j with _ | _ | _ | j
  · exact new9_0 w
  · exact new9_1 w
  · exact new9_2 w
  · omega

/-- A list that was made: n numbers at the head of a block of their own. -/
def Head (n : Nat) (E l : List Nat) : Prop := n ≤ E.length ∧ E.length ≤ maxLen ∧ B8 E ∧ E.take n = l

set_option maxRecDepth 100000 in
set_option maxHeartbeats 1000000 in
theorem clone_st {A : Option Addr} {m c : Nat} {l : List Nat} {w : World} (hm : l.length = m) (hl : m ≤ 140737488351232) (h8 : B8 l) (h : Rd w A l) :
    Calls Try.prog 8 #[.slice A m c] w fun e w' => ∃ b E, e = .returned (.slice (some ⟨b, 0, none⟩) m E.length) ∧ Head m E l ∧ St w w' [] [bt b E] := by
  have HM := Lib.hid hm; have HR := Lib.hid h; have H8 := Lib.hid h8
  clear hm h h8
  have S0 := Lib.hid (St.start w)
  go_enter Try.func8, Try.ntmps8
  go_wp2_with (first
    | ((with_reducible refine at_slot (N := 3) rfl ?_); refine ev rfl (bslice_run _ 5 0 _ (Mm.row .u8 []) rfl (fun _ => by kernel_rfl)) ?_; have S1 := Lib.hid (S0.out.alloc 5 (Mm.row .u8 [])); clear S0)
    | ((with_reducible refine at_slot (N := 5) rfl ?_); refine append_clone rfl _ _ rfl w.heap.size rfl S1.out A m c l rfl HM.out (S1.out.ext HR.out) H8.out (by omega) ?_; intro b E w2 g1 g2 g3 g4 hs; have S2 := Lib.hid hs; have Q3 := Lib.hid g3; have Q4 := Lib.hid g4; clear hs g3 g4 S1))
  go_ret
  exact ⟨b, E, rfl, ⟨g1, g2, Q3.out, Q4.out⟩, S2.out⟩

/-- The string of a list of bytes. -/
def ints (l : List Nat) : List Int := l.map fun x : Nat => (x : Int)
def strL (l : List Nat) : ByteArray := strOfNums (ints l)
theorem cv_some {b n c : Nat} {l : List Nat} {w : World} (hl : l.length = n) (h : Rd w (some ⟨b, 0, none⟩) l) :
    (convert 22 9 (.slice (some ⟨b, 0, none⟩) n c)).run Try.prog w = .ok (.string (strL l)) w := by
  refine run_convert_bytes_arg w 22 5 (by kernel_rfl) (by kernel_rfl) b 0 n c (ints l) (by simpa [ints] using hl) (fun i hi => ?_) 9 (by kernel_rfl)
  obtain ⟨b', o', e, k⟩ := h (by omega)
  injection e with e
  injection e with e1 e2 _
  subst e1 e2
  have := k i (by omega)
  rw [this]
  simp [ints, show i < l.length by omega]
theorem cv_none {c : Nat} (w : World) : (convert 22 9 (.slice none 0 c)).run Try.prog w = .ok (.string (strL [])) w :=
  run_convert_bytes_nil (P := Try.prog) w 22 5 (by kernel_rfl) (by kernel_rfl) 0 c 9 (by kernel_rfl)

end Go.Proofs.Ytdlmkhlkgklkaaa.Sk
