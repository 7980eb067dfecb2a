/- Layer 5 (table): the kernel's calls as the laws use them. -/
import Derived.Test.YtdbfkjhdnbmpeaaTm
namespace Go.Proofs.Ytdbfkjhdnbmpeaa.Tk
set_option linter.unusedSimpArgs false
set_option linter.unusedVariables false
open Go Go.RowKit Go.Proofs.Ytdbfkjhdnbmpeaa Go.Proofs.Ytdbfkjhdnbmpeaa.Mm Go.Proofs.Ytdbfkjhdnbmpeaa.Gf Go.Proofs.Ytdbfkjhdnbmpeaa.Wr Go.Proofs.Ytdbfkjhdnbmpeaa.Tb Go.Proofs.Ytdbfkjhdnbmpeaa.St

theorem mul_nil (c : Int) (v1 v2 : Value) (w : World) : Calls Try.prog 69 #[.pointer none, .int .u8 c, v1, v2] w fun e w' => e = .returned (.int .i64 1) ∧ w = w' := by
  go_enter Try.func69, Try.ntmps69
  go_wp2_with fail
  refine (refuses_nil _ _ _).mono ?_
  rintro e _ ⟨rfl, rfl⟩
  go_wp2_with fail
  go_ret
  exact ⟨rfl, rfl⟩

theorem add_nil (c : Int) (v1 v2 : Value) (w : World) : Calls Try.prog 70 #[.pointer none, .int .u8 c, v1, v2] w fun e w' => e = .returned (.int .i64 1) ∧ w = w' := by
  go_enter Try.func70, Try.ntmps70
  go_wp2_with fail
  refine (refuses_nil _ _ _).mono ?_
  rintro e _ ⟨rfl, rfl⟩
  go_wp2_with fail
  go_ret
  exact ⟨rfl, rfl⟩

theorem mul_lens (p : Addr) (c : Int) (A1 A2 : Option Addr) (n m c1 c2 : Nat) (w : World) (h : n ≠ m) : Calls Try.prog 69 #[.pointer (some p), .int .u8 c, .slice A1 n c1, .slice A2 m c2] w fun e w' => e = .returned (.int .i64 6) ∧ w = w' := by
  have H := Lib.hid h
  clear h
  go_enter Try.func69, Try.ntmps69
  go_wp2_with fail
  refine (refuses_lens _ _ _ _ _ _ _ _ H.out).mono ?_
  rintro e _ ⟨rfl, rfl⟩
  go_wp2_with fail
  go_ret
  exact ⟨rfl, rfl⟩

theorem add_lens (p : Addr) (c : Int) (A1 A2 : Option Addr) (n m c1 c2 : Nat) (w : World) (h : n ≠ m) : Calls Try.prog 70 #[.pointer (some p), .int .u8 c, .slice A1 n c1, .slice A2 m c2] w fun e w' => e = .returned (.int .i64 6) ∧ w = w' := by
  have H := Lib.hid h
  clear h
  go_enter Try.func70, Try.ntmps70
  go_wp2_with fail
  refine (refuses_lens _ _ _ _ _ _ _ _ H.out).mono ?_
  rintro e _ ⟨rfl, rfl⟩
  go_wp2_with fail
  go_ret
  exact ⟨rfl, rfl⟩

/-- dst, a list from its head on, becomes c times src. -/
theorem mul_st {kb : Nat} {c : Int} {bd n cd : Nat} {A : Option Addr} {cs : Nat} {D l : List Nat} {w : World} (hc0 : 0 ≤ c) (hc : c < 256) (hkb : Blk w kb 104 (row .u8 tabL)) (hd : Bytes w bd D) (hD : D.length = n) (hl : l.length = n) (h8 : B8 l) (hD8 : B8 D) (hnm : n ≤ 281474976710656)
    (hs : Rd w A l) (hne : kb ≠ bd) :
    Calls Try.prog 69 #[.pointer (some ⟨kb, 0, none⟩), .int .u8 c, .slice (some ⟨bd, 0, none⟩) n cd, .slice A n cs] w fun e w' => e = .returned (.int .i64 0) ∧ St w w' [bt bd (l.map (gm c.toNat))] [] := by
  obtain ⟨c, rfl⟩ := Int.eq_ofNat_of_zero_le hc0
  refine (mul_at c kb bd 0 n cd A cs D l w (by omega) hkb hd hne (by omega) hl h8 hD8 hnm hs (fun b o _ => .inr (Nat.zero_le _))).mono fun e w' ⟨he, hm⟩ => ⟨he, ?_⟩
  rw [wr_all _ _ (by simp [hD, hl])] at hm
  exact hm

theorem add_wr {D l : List Nat} {c n : Nat} (hD : D.length = n) (hl : l.length = n) : Wr.wr D 0 ((List.range n).map fun i => D.getD (0 + i) 0 ^^^ gm c (l.getD i 0)) = xs D (l.map (gm c)) := by
  rw [wr_all _ _ (by simp [hD])]
  unfold xs
  rw [hD]
  apply List.map_congr_left
  intro i hi
  have hi' : i < l.length := by rw [hl]; simpa using hi
  simp [hi']

/-- .. is added to it. -/
theorem add_st {kb : Nat} {c : Int} {bd n cd : Nat} {A : Option Addr} {cs : Nat} {D l : List Nat} {w : World} (hc0 : 0 ≤ c) (hc : c < 256) (hkb : Blk w kb 104 (row .u8 tabL)) (hd : Bytes w bd D) (hD : D.length = n) (hl : l.length = n) (h8 : B8 l) (hD8 : B8 D) (hnm : n ≤ 281474976710656)
    (hs : Rd w A l) (hne : kb ≠ bd) :
    Calls Try.prog 70 #[.pointer (some ⟨kb, 0, none⟩), .int .u8 c, .slice (some ⟨bd, 0, none⟩) n cd, .slice A n cs] w fun e w' => e = .returned (.int .i64 0) ∧ St w w' [bt bd (xs D (l.map (gm c.toNat)))] [] := by
  obtain ⟨c, rfl⟩ := Int.eq_ofNat_of_zero_le hc0
  refine (add_at c kb bd 0 n cd A cs D l w (by omega) hkb hd hne (by omega) hl h8 hD8 hnm hs (fun b o _ => .inr (Nat.zero_le _))).mono fun e w' ⟨he, hm⟩ => ⟨he, ?_⟩
  rw [add_wr hD hl] at hm
  exact hm

/-- The products of c by 0, 1, .., 255. -/
def rowOf (c : Nat) : List Nat := (List.range 256).map (gm c)
theorem rowOf_length (c : Nat) : (rowOf c).length = 256 := by simp [rowOf]
theorem rowOf_get {c x : Nat} (hx : x < 256) : (rowOf c).getD x 0 = gm c x := by simp [rowOf, hx]
theorem rowOf_b8 {c : Nat} (hc : c < 256) : B8 (rowOf c) := by
  intro x hx
  obtain ⟨y, _, rfl⟩ := List.mem_map.1 hx
  exact gm_lt _ hc
theorem tab_row {w : World} {kb c : Nat} (h : Blk w kb 104 (row .u8 tabL)) (hc : c < 256) : Rd w (some ⟨kb, c * 256, none⟩) (rowOf c) := by
  intro _
  refine ⟨_, _, rfl, fun i hi => ?_⟩
  rw [rowOf_length] at hi
  have := h.cellRow (i := c * 256 + i) (by rw [tabL_length]; omega)
  rw [tabL_get hc hi] at this
  rw [this, rowOf_get hi]

end Go.Proofs.Ytdbfkjhdnbmpeaa.Tk
