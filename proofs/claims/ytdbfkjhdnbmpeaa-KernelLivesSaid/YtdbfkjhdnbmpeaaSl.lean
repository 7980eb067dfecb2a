/- Layer 7 (sliced): the inner functions' contracts. -/
import Derived.Test.YtdbfkjhdnbmpeaaWd
import Derived.Test.YtdbfkjhdnbmpeaaG8
import Derived.Test.YtdbfkjhdnbmpeaaGr
import Derived.Test.YtdbfkjhdnbmpeaaSa
namespace Go.Proofs.Ytdbfkjhdnbmpeaa.Sl
set_option linter.unusedSimpArgs false
set_option linter.unusedVariables false
open Go Go.RowKit Go.Proofs.Ytdbfkjhdnbmpeaa Go.Proofs.Ytdbfkjhdnbmpeaa.Mm Go.Proofs.Ytdbfkjhdnbmpeaa.Gf Go.Proofs.Ytdbfkjhdnbmpeaa.Wr Go.Proofs.Ytdbfkjhdnbmpeaa.St Go.Proofs.Ytdbfkjhdnbmpeaa.Wd

/-- The products of c by 1, 2, 4, .., 128. -/
def cols (c : Nat) : List Nat := (List.range 8).map fun k => gm c (2 ^ k)
theorem cols_length (c : Nat) : (cols c).length = 8 := by simp [cols]
theorem cols_get {c k : Nat} (h : k < 8) : (cols c).getD k 0 = gm c (2 ^ k) := by simp [cols, h]
abbrev Arr8 (w : World) (b : Nat) (l : List Nat) : Prop := Blk w b 138 (row .u8 l)

theorem part_lt {l : List Nat} (h : B8 l) (hl : l.length = 8) {k : Nat} (hk : k < 8) : ((W8 l) / 2 ^ k &&& 72340172838076673) * 255 < 18446744073709551616 := by
  rw [W8_bits h hl hk, W8_mul]
  refine W8_lt64 ?_ (by simp [hl])
  intro x hx
  obtain ⟨y, hy, rfl⟩ := List.mem_map.1 hx
  obtain ⟨z, _, rfl⟩ := List.mem_map.1 hy
  have : z / 2 ^ k % 2 < 2 := Nat.mod_lt _ (by decide)
  show _ * 255 < 256
  omega
theorem rep_lt {p : Nat} (hp : p < 256) : p * 72340172838076673 < 18446744073709551616 := by
  rw [W8_rep]
  refine W8_lt64 ?_ (by simp)
  intro x hx
  rw [List.eq_of_mem_replicate hx]; exact hp
theorem cs_b8 {c : Nat} (hc : c < 256) (l : List Nat) (k : Nat) : B8 (l.map fun x => cs c x k) := by
  intro x hx
  obtain ⟨y, _, rfl⟩ := List.mem_map.1 hx
  exact cs_lt hc y k
theorem lt64 {n : Nat} (h : n < 18446744073709551616) : n < 2 ^ 64 := h

set_option maxRecDepth 100000 in
set_option maxHeartbeats 2000000 in
theorem word_q (c pb : Nat) (l : List Nat) (w : World) (hc : c < 256) (hp : Arr8 w pb (cols c)) (h8 : B8 l) (hl : l.length = 8) :
    Calls Try.prog 81 #[.pointer (some ⟨pb, 0, none⟩), .int .u64 ((W8 l : Nat) : Int)] w fun e w' => e = .returned (.int .u64 ((W8 (l.map (gm c)) : Nat) : Int)) ∧ ∃ n, w' = w.drewN n := by
  have HP := Lib.hid hp; have H8 := Lib.hid h8; have HL := Lib.hid hl
  have HD := Lib.hid (W8_done (c := c) h8)
  have H0 := Lib.hid (W8_zero l c)
  clear hp h8 hl
  go_enter Try.func81, Try.ntmps81
  go_wp2_with fail
  go_loopw [5, 10] (fun v vi wr => ∃ k n : Nat, k ≤ 8 ∧ vi = .int .i64 k ∧ v = .int .u64 ((W8 (l.map fun x => cs c x k) : Nat) : Int) ∧ wr = w.drewN n) (fun _ vi _ => 8 - (intOf vi).toNat)
  case atStart => exact ⟨0, 0, by omega, rfl, by rw [H0.out]; rfl, rfl⟩
  case round =>
    clear H0
    obtain ⟨k, n, hk, rfl, rfl, rfl⟩ := hrel
    by_cases hlt : k < 8
    · have m1 := HP.out.cellRow (i := k) (by rw [cols_length]; exact hlt)
      rw [cols_get hlt] at m1
      have HR := Lib.hid (W8_round hc H8.out HL.out hlt)
      have hpt := part_lt H8.out HL.out hlt
      have hpk := gm_lt (2 ^ k) hc
      have hrp := rep_lt hpk
      have hw : W8 l < 18446744073709551616 := W8_lt64 H8.out HL.out
      have hv : W8 (l.map fun x => cs c x k) < 18446744073709551616 := W8_lt64 (cs_b8 hc l k) (by rw [List.length_map, HL.out])
      have hq : W8 l / 2 ^ k < 18446744073709551616 := Nat.lt_of_le_of_lt (Nat.div_le_self _ _) hw
      have hr : W8 l / 2 ^ k &&& 72340172838076673 < 18446744073709551616 := Nat.lt_of_le_of_lt Nat.and_le_right (by decide)
      generalize gm c (2 ^ k) = p at *
      obtain ⟨q, eq⟩ : ∃ q, W8 l / 2 ^ k = q := ⟨_, rfl⟩
      have e1 : ((W8 l : Nat) : Int) / 2 ^ k = (q : Int) := by rw [← eq]; simp
      rw [eq] at HR hpt hq hr
      clear eq
      have e2 : Go.bits .and .u64 (q : Int) 72340172838076673 = ((q &&& 72340172838076673 : Nat) : Int) := Bt.and64 (lt64 hq) (by decide)
      generalize q &&& 72340172838076673 = r at *
      have e3 : IntKind.u64.wrap ((r : Int) * 255) = ((r * 255 : Nat) : Int) := by rw [show (r : Int) * 255 = ((r * 255 : Nat) : Int) from by omega]; exact Bt.wrap_u64 _ (by omega) (by omega)
      have e4 : IntKind.u64.wrap ((p : Int) * 72340172838076673) = ((p * 72340172838076673 : Nat) : Int) := by rw [show (p : Int) * 72340172838076673 = ((p * 72340172838076673 : Nat) : Int) from by omega]; exact Bt.wrap_u64 _ (by omega) (by omega)
      have e5 : Go.bits .and .u64 ((r : Int) * 255) ((p : Int) * 72340172838076673) = ((r * 255 &&& p * 72340172838076673 : Nat) : Int) := by
        have := Bt.and64 (lt64 hpt) (lt64 hrp)
        simpa using this
      have hz : (r * 255 &&& p * 72340172838076673) < 18446744073709551616 := Nat.lt_of_le_of_lt Nat.and_le_left hpt
      have e6 : Go.bits .xor .u64 ((W8 (l.map fun x => cs c x k) : Nat) : Int) ((r * 255 &&& p * 72340172838076673 : Nat) : Int) = ((W8 (l.map fun x => cs c x (k + 1)) : Nat) : Int) := by
        rw [← HR.out]
        exact Bt.xor64 (lt64 hv) (lt64 hz)
      go_wp2_with fail
      go_quiet (fail)
      go_wp2_with fail
      try rw [e5]
      try rw [e6]
      clear e1 e2 e3 e4 e5 e6
      refine ⟨⟨k + 1, n + nq, by omega, by simp, rfl, by simp [Nat.add_assoc]⟩, ?_⟩
      show 8 - ((k : Int) + 1).toNat < 8 - (k : Int).toNat
      omega
    · obtain rfl : k = 8 := by omega
      rw [HD.out]
      go_wp2_with fail
      go_ret
      exact ⟨rfl, n, rfl⟩

theorem W8_snoc {l : List Nat} (hl : l.length = 8) {i : Nat} (hi : i < 8) : W8 (l.drop (8 - (i + 1))) = l.getD (7 - i) 0 + 256 * W8 (l.drop (8 - i)) := by
  have h : 8 - (i + 1) < l.length := by omega
  rw [List.drop_eq_getElem_cons h, W8, show 8 - (i + 1) + 1 = 8 - i from by omega]
  congr 1
  simp [show 8 - (i + 1) = 7 - i from by omega, show 7 - i < l.length by omega]
theorem or_byte {a x : Nat} (hx : x < 256) : 256 * a ||| x = x + 256 * a := by
  have := Nat.two_pow_add_eq_or_of_lt (b := x) (i := 8) hx a
  rw [show (256 : Nat) = 2 ^ 8 from rfl, ← this]; omega
theorem W8_lt_drop {l : List Nat} (h : B8 l) (hl : l.length = 8) {i : Nat} (hi : i < 8) : W8 (l.drop (8 - i)) < 72057594037927936 := by
  have h1 := W8_lt (l.drop (8 - i)) (h.drop _)
  rw [List.length_drop, hl] at h1
  have h2 : 256 ^ (8 - (8 - i)) ≤ 256 ^ 7 := Nat.pow_le_pow_right (by decide) (by omega)
  exact Nat.lt_of_lt_of_le h1 h2

set_option maxRecDepth 100000 in
set_option maxHeartbeats 2000000 in
theorem load_q (b o n cs : Nat) (l : List Nat) (w : World) (hn : 8 ≤ n) (h8 : B8 l) (hl : l.length = 8) (hs : ∀ i, i < 8 → w.cell? ⟨b, o + i, none⟩ = some (.int .u8 ((l.getD i 0 : Nat) : Int))) :
    Calls Try.prog 82 #[.slice (some ⟨b, o, none⟩) n cs] w fun e w' => e = .returned (.int .u64 ((W8 l : Nat) : Int)) ∧ w = w' := by
  have HS := Lib.hid hs; have H8 := Lib.hid h8; have HL := Lib.hid hl
  clear hs h8 hl
  go_enter Try.func82, Try.ntmps82
  go_wp2_with fail
  go_loopw [3, 4] (fun v vj wr => ∃ i : Nat, i ≤ 8 ∧ vj = .int .i64 (7 - (i : Int)) ∧ v = .int .u64 ((W8 (l.drop (8 - i)) : Nat) : Int) ∧ wr = w) (fun _ vj _ => (intOf vj + 1).toNat)
  case atStart => exact ⟨0, by omega, rfl, by rw [List.drop_of_length_le (by rw [HL.out]; decide)]; rfl, rfl⟩
  case round =>
    obtain ⟨i, hi, rfl, rfl, rfl⟩ := hrel
    by_cases hlt : i < 8
    · have m1 := HS.out (7 - i) (by omega)
      have hx := H8.out.get (i := 7 - i) (by rw [HL.out]; omega)
      have hv := W8_lt_drop H8.out HL.out hlt
      have HV := Lib.hid (W8_snoc HL.out hlt)
      generalize l.getD (7 - i) 0 = x at *
      generalize W8 (l.drop (8 - i)) = v at *
      obtain ⟨j, ej⟩ : ∃ j, j = 7 - i := ⟨_, rfl⟩
      have ej' : (7 : Int) - (i : Int) = (j : Int) := by omega
      rw [← ej] at m1
      have j1 : j < n := by omega
      have j2 : (j : Int) < (n : Int) := by omega
      have x0 : (0 : Int) ≤ (x : Int) := by omega
      have x1 : (x : Int) < 256 := by omega
      have e1 : IntKind.u64.wrap ((v : Int) * 256) = ((256 * v : Nat) : Int) := by rw [show (v : Int) * 256 = ((256 * v : Nat) : Int) from by omega]; exact Bt.wrap_u64 _ (by omega) (by omega)
      have e2 : Go.bits .or .u64 ((256 * v : Nat) : Int) (x : Int) = ((x + 256 * v : Nat) : Int) := by rw [Bt.or64 (by omega) (by omega), or_byte hx]
      have e3 : Go.bits .or .u64 (256 * (v : Int)) (x : Int) = ((x + 256 * v : Nat) : Int) := by simpa using e2
      have EJ := Lib.hid ej'
      rw [ej']
      clear ej ej'
      have e4 : wrap64 ((j : Int) - 1) = 7 - ((i + 1 : Nat) : Int) := by
        have := EJ.out
        have h1 : wrap64 ((j : Int) - 1) = (j : Int) - 1 := by unfold wrap64; omega
        rw [h1]; omega
      go_wp2_with fail
      try rw [e3]
      try rw [e4]
      refine ⟨⟨i + 1, by omega, rfl, by rw [HV.out]; simp, trivial⟩, ?_⟩
      show (7 - ((i + 1 : Nat) : Int) + 1).toNat < ((j : Int) + 1).toNat
      have := EJ.out; omega
    · obtain rfl : i = 8 := by omega
      go_wp2_with fail
      go_ret
      exact ⟨rfl, rfl⟩

/-- The bytes of a word. -/
theorem W8_byte {l : List Nat} (h : B8 l) {i : Nat} : W8 l / 2 ^ (8 * i) % 256 = l.getD i 0 := by
  apply Nat.eq_of_testBit_eq
  intro j
  rw [show (256 : Nat) = 2 ^ 8 from rfl, Nat.testBit_mod_two_pow, Nat.testBit_div_two_pow, testBit_W8 l h]
  by_cases hj : j < 8
  · rw [show (j + 8 * i) / 8 = i from by omega, show (j + 8 * i) % 8 = j from by omega]
    simp [hj]
  · simp only [hj, decide_false, Bool.false_and]
    rw [Nat.testBit_lt_two_pow]
    have h1 : l.getD i 0 < 256 := by
      by_cases hi : i < l.length
      · exact h.get hi
      · rw [List.getD_eq_getElem?_getD, List.getElem?_eq_none (by omega)]; decide
    exact Nat.lt_of_lt_of_le h1 (Nat.pow_le_pow_right (n := 2) (i := 8) (by decide) (by omega))

set_option maxRecDepth 100000 in
set_option maxHeartbeats 2000000 in
theorem lay_at (b o n cs : Nat) (D l : List Nat) (w : World) (hd : Bytes w b D) (hn : 8 ≤ n) (ho : o + 8 ≤ D.length) (h8 : B8 l) (hl : l.length = 8) :
    Calls Try.prog 83 #[.slice (some ⟨b, o, none⟩) n cs, .int .u64 ((W8 l : Nat) : Int)] w fun e w' => e = .returned (.tuple #[]) ∧ St w w' [bt b (Wr.wr D o l)] [] := by
  have H8 := Lib.hid h8; have HL := Lib.hid hl; have HO := Lib.hid ho
  have S0 := Lib.hid (St.start1 hd)
  have hw : W8 l < 18446744073709551616 := W8_lt64 h8 hl
  clear hd h8 hl ho
  go_enter Try.func83, Try.ntmps83
  go_wp2_with fail
  go_loopw [5] (fun vj wq => ∃ i : Nat, i ≤ 8 ∧ vj = .int .i64 i ∧ St w wq [bt b (Wr.wr D o (l.take i))] []) (fun vj _ => 8 - (intOf vj).toNat)
  case atStart => exact ⟨0, by omega, rfl, S0.out⟩
  case round =>
    clear S0
    obtain ⟨i, hi, rfl, hs⟩ := hrel
    have S1 := Lib.hid hs; clear hs
    by_cases hlt : i < 8
    · have hlen : o + i < (Wr.wr D o (l.take i)).length := by rw [wr_length]; have := HO.out; omega
      have m4 := (S1.out.blkW mem0).cellRow (i := o + i) hlen
      have f4 := (S1.out.blkW mem0).free (i := o + i)
      have j1 : i < n := by omega
      have j2 : (i : Int) < (n : Int) := by omega
      have HB := Lib.hid (W8_byte (i := i) H8.out)
      have hx := H8.out.get (i := i) (by rw [HL.out]; omega)
      generalize (Wr.wr D o (l.take i)).getD (o + i) 0 = y at *
      go_wp2_with fail
      have e1 : ((W8 l : Nat) : Int) / 2 ^ (8 * i) % 256 = ((l.getD i 0 : Nat) : Int) := by rw [← HB.out]; simp
      rw [e1]
      refine ⟨⟨i + 1, by omega, by simp, ?_⟩, ?_⟩
      · rw [wr_take_succ (by rw [HL.out]; exact hlt)]
        exact S1.out.setRowW (W1 := []) _ _
      · show 8 - ((i : Int) + 1).toNat < 8 - (i : Int).toNat
        omega
    · obtain rfl : i = 8 := by omega
      rw [List.take_of_length_le (by rw [HL.out]; exact Nat.le_refl _)] at S1
      go_wp2_with fail
      exact bodyPost_end (results_none rfl _ _ _) rfl ⟨rfl, S1.out⟩

end Go.Proofs.Ytdbfkjhdnbmpeaa.Sl
