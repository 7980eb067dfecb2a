/- Layer 5 (table): the kernel of full tables: the contracts of New, Mul, MulAdd, Product, Row. -/
import Derived.Test.YtdbfkjhdnbmpeaaG9
import Derived.Test.YtdbfkjhdnbmpeaaBt
import Derived.Test.YtdbfkjhdnbmpeaaGr
import Derived.Deep.RegionHeld3
namespace Go.Proofs.Ytdbfkjhdnbmpeaa.Tk
set_option linter.unusedSimpArgs false
set_option linter.unusedVariables false
open Go Go.RowKit Go.Proofs.Ytdbfkjhdnbmpeaa Go.Proofs.Ytdbfkjhdnbmpeaa.Mm Go.Proofs.Ytdbfkjhdnbmpeaa.Gf Go.Proofs.Ytdbfkjhdnbmpeaa.Wr Go.Proofs.Ytdbfkjhdnbmpeaa.Tb Go.Proofs.Ytdbfkjhdnbmpeaa.St

/-- The product of a place's row and column. -/
def tf (i : Nat) : Nat := gm (i / 256) (i % 256)
/-- The table, its first k places done. -/
def part (k : Nat) : List Nat := fill tf 65536 k
/-- The full table. -/
def tabL : List Nat := part 65536
theorem tf_at {c x : Nat} (hx : x < 256) : tf (c * 256 + x) = gm c x := by
  unfold tf
  rw [show (c * 256 + x) / 256 = c from by omega, show (c * 256 + x) % 256 = x from by omega]
theorem part_length (k : Nat) : (part k).length = 65536 := fill_length _ _ _
theorem part_zero : part 0 = List.replicate 65536 0 := fill_zero _ _
theorem part_step {k : Nat} (h : k < 65536) : (part k).set k (tf k) = part (k + 1) := fill_step h
theorem tabL_length : tabL.length = 65536 := fill_length _ _ _
theorem tabL_get {c x : Nat} (hc : c < 256) (hx : x < 256) : tabL.getD (c * 256 + x) 0 = gm c x := by
  unfold tabL part
  rw [fill_done]
  rw [← tf_at hx]
  have h : c * 256 + x < 65536 := by omega
  generalize c * 256 + x = i at *
  generalize 65536 = n at *
  simp [h]

def isZ (v : Value) : Bool := match v with | .int .u8 0 => true | _ => false
theorem isZ_eq {v : Value} (h : isZ v = true) : v = .int .u8 0 := by
  unfold isZ at h
  split at h
  · rfl
  · cases h
def chk (o : Option (Array Value)) : Bool := match o with | some c => c.size == 65536 && c.toList.all isZ | none => false
theorem zeros_row {c : Array Value} {n : Nat} (h1 : c.size = n) (h2 : c.toList.all isZ = true) : c = row .u8 (List.replicate n 0) := by
  apply Array.ext_getElem?
  intro i
  by_cases hi : i < n
  · have h3 := isZ_eq (List.all_eq_true.1 h2 (c[i]'(by omega)) (by simp))
    rw [row_get (by rw [List.length_replicate]; exact hi)]
    simp [h1, hi, h3]
  · rw [Array.getElem?_eq_none (by omega), Array.getElem?_eq_none (by rw [row_size, List.length_replicate]; omega)]
theorem zeros_of {o : Option (Array Value)} (h : chk o = true) : o = some (row .u8 (List.replicate 65536 0)) := by
  unfold chk at h
  cases o with
  | none => cases h
  | some c =>
    simp only [Bool.and_eq_true, beq_iff_eq] at h
    rw [zeros_row h.1 h.2]
theorem built : Try.prog.built 104 [] = some (row .u8 (part 0)) := by rw [part_zero]; exact zeros_of (by kernel_rfl)
theorem built' (f : Nat × Operand → Nat × Value) : Try.prog.built 104 (((#[] : Array (Nat × Operand)).map f).toList) = some (row .u8 (part 0)) := by
  rw [show ((#[] : Array (Nat × Operand)).map f).toList = [] from by simp]
  exact built

/-- The kernel of full tables lies at b. -/
abbrev tk (b : Nat) : Ent := ⟨b, 104, row .u8 tabL⟩

theorem tmul_any (b : Nat) (x y : Int) (w : World) (ht : G8.TabsAt w b) (hx0 : 0 ≤ x) (hx : x < 256) (hy0 : 0 ≤ y) (hy : y < 256) :
    Calls Try.prog 50 #[.pointer (some ⟨b, 0, none⟩), .int .u8 x, .int .u8 y] w fun e w' => e = .returned (.int .u8 ((Gf.gm x.toNat y.toNat : Nat) : Int)) ∧ ∃ n, w' = w.drewN n := by
  obtain ⟨x, rfl⟩ := Int.eq_ofNat_of_zero_le hx0
  obtain ⟨y, rfl⟩ := Int.eq_ofNat_of_zero_le hy0
  exact G8.tmul_calls b x y w ht (by omega) (by omega)

set_option maxRecDepth 100000 in
set_option maxHeartbeats 2000000 in
theorem new_st (w : World) : Calls Try.prog 40 #[] w fun e w' => ∃ b, e = .returned (.pointer (some ⟨b, 0, none⟩)) ∧ St w w' [] [tk b] := by
  have S0 := Lib.hid (St.start w)
  go_enter Try.func40, Try.ntmps40
  go_wp2_with (first | ((with_reducible refine at_slot (N := 5) rfl ?_); refine ev rfl (build_run _ _ _ rfl (built' _)) ?_) | ((with_reducible refine at_slot (N := 6) rfl ?_); refine ev rfl (box_run _ _ _ rfl rfl) ?_))
  have S1 := Lib.hid (S0.out.alloc 104 (row .u8 (part 0))); clear S0
  refine (G8.new_calls _).mono ?_
  rintro e w2 ⟨rfl, hm, hb⟩
  have h2 := S1.out.call (St.of_made hb hm (Nat.le_refl _)); clear hm hb S1
  simp only [World.size_alloc, List.nil_append, List.cons_append] at h2
  have S2 := Lib.hid h2; clear h2
  go_wp2_with fail
  go_loopw [8] (fun vi wr => ∃ c : Nat, c ≤ 256 ∧ vi = .int .i64 c ∧ St w wr [] [⟨w.heap.size + 1, 116, tabs⟩, ⟨w.heap.size, 104, row .u8 (part (c * 256))⟩]) (fun vi _ => 256 - (intOf vi).toNat)
  case atStart => exact ⟨0, by omega, rfl, S2.out⟩
  case round =>
    clear S2
    obtain ⟨c, hc, rfl, hs⟩ := hrel
    have S3 := Lib.hid hs; clear hs
    by_cases hlt : c < 256
    · obtain ⟨wo, rfl⟩ : ∃ wo : World, wo = wr := ⟨_, rfl⟩
      have d1 : decide ((c : Int) < 256) = true := decide_eq_true (by omega)
      go_wp2_with fail
      go_loopw [11] (fun vi wr => ∃ x : Nat, x ≤ 256 ∧ vi = .int .i64 x ∧ St w wr [] [⟨w.heap.size + 1, 116, tabs⟩, ⟨w.heap.size, 104, row .u8 (part (c * 256 + x))⟩]) (fun vi _ => 256 - (intOf vi).toNat)
      case atStart => exact ⟨0, by omega, rfl, S3.out⟩
      case round =>
        clear S3 d1
        obtain ⟨x, hx, rfl, hs⟩ := hrel
        have S4 := Lib.hid hs; clear hs
        by_cases hxt : x < 256
        · have m1 := (S4.out.blk mem1).cellRow (i := c * 256 + x) (by rw [part_length]; omega)
          have f1 := (S4.out.blk mem1).free (i := c * 256 + x)
          generalize (part (c * 256 + x)).getD (c * 256 + x) 0 = y at m1
          go_wp2_with fail
          have b1 : (0 : Int) ≤ (c : Int) := by omega
          have b2 : (c : Int) < 256 := by omega
          have b3 : (0 : Int) ≤ (x : Int) := by omega
          have b4 : (x : Int) < 256 := by omega
          have q1 := Bt.wu8 hlt
          have q2 := Bt.wu8 hxt
          go_region_held3 (fun _ => True) (trivial) (first | (go_at_call 50; refine (tmul_any _ _ _ _ (by exact S4.out.blk mem0) (by omega) (by omega) (by omega) (by omega)).mono ?_; rintro e w' ⟨rfl, n, rfl⟩))
          clear q1 q2 m1 f1
          go_wp2_with fail
          go_roundw
          case rel =>
            refine ⟨x + 1, by omega, by go_num, ?_⟩
            have h := (S4.out.setRow (N1 := [_]) (c * 256 + x) (tf (c * 256 + x))).drewN (n := 1 + n)
            rw [part_step (by omega), tf_at hxt] at h
            exact h
          case measure => simp [intOf]; omega
        · obtain rfl : x = 256 := by omega
          go_wp2_with fail
          go_roundw
          case rel =>
            refine ⟨c + 1, by omega, by go_num, ?_⟩
            rw [show (c + 1) * 256 = c * 256 + 256 from by omega]
            exact S4.out
          case measure => simp [intOf]; omega
    · obtain rfl : c = 256 := by omega
      go_wp2_with fail
      go_ret
      exact ⟨_, rfl, S3.out.drop (.cons _ (List.Sublist.refl _))⟩

end Go.Proofs.Ytdbfkjhdnbmpeaa.Tk
