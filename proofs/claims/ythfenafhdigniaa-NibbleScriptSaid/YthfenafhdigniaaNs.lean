/- Layer 6: the contracts of the kernel's calls and of the laws' helpers, over St. -/
import Derived.Test.YthfenafhdigniaaL7
import Derived.Test.YthfenafhdigniaaGr
namespace Go.Proofs.Ythfenafhdigniaa.L6
set_option linter.unusedSimpArgs false
set_option linter.unusedVariables false
open Go Go.RowKit Go.Proofs.Ythfenafhdigniaa Go.Proofs.Ythfenafhdigniaa.Mm Go.Proofs.Ythfenafhdigniaa.Gf Go.Proofs.Ythfenafhdigniaa.Wr Go.Proofs.Ythfenafhdigniaa.Nb Go.Proofs.Ythfenafhdigniaa.St

theorem new_st (w : World) : Calls Try.prog 11 #[] w fun e w' => ∃ p, e = .returned (.pointer (some p)) ∧ St w w' [] [] :=
  (new_calls w).mono fun _ _ ⟨he, hb⟩ => ⟨_, he, .of_below hb⟩

theorem fixed_st (w : World) : Calls Try.prog 12 #[] w fun e w' => e = .returned (.bool true) ∧ St w w' [] [] :=
  (fixed_calls w).mono fun _ _ ⟨he, hb⟩ => ⟨he, .of_below hb⟩

theorem equal_st {A1 A2 : Option Addr} {m c1 c2 : Nat} {l : List Nat} {w : World} (hm : l.length = m) (hl : m ≤ 281474976710656) (h1 : Rd w A1 l) (h2 : Rd w A2 l) :
    Calls Try.prog 14 #[.slice A1 m c1, .slice A2 m c2] w fun e w' => e = .returned (.bool true) ∧ St w w' [] [] :=
  (equal_below A1 A2 m c1 c2 l w hm hl h1 h2).mono fun _ _ ⟨he, hb⟩ => ⟨he, .of_below hb⟩

theorem copied_st {A : Option Addr} {m c : Nat} {l : List Nat} {w : World} (hm : l.length = m) (hl : m ≤ 281474976710656) (h : Rd w A l) :
    Calls Try.prog 13 #[.slice A m c] w fun e w' => ∃ b, e = .returned (.slice (some ⟨b, 0, none⟩) m m) ∧ St w w' [] [bt b l] :=
  (copied_calls A m c l w hm hl h).mono fun _ _ ⟨he, hm, hb⟩ => ⟨_, he, .of_made hb hm (Nat.le_refl _)⟩

theorem times_st {p : Addr} {c : Int} {A : Option Addr} {m cs : Nat} {l : List Nat} {w : World} (hc0 : 0 ≤ c) (hc : c < 256) (hm : l.length = m) (hl : m ≤ 281474976710656) (h : Rd w A l) (h8 : B8 l) :
    Calls Try.prog 15 #[.pointer (some p), .int .u8 c, .slice A m cs] w fun e w' => ∃ b, e = .returned (.slice (some ⟨b, 0, none⟩) m m) ∧ St w w' [] [bt b (l.map (gm c.toNat))] :=
  (times_calls p c A m cs l w hc0 hc hm hl h h8).mono fun _ _ ⟨he, hm, hb⟩ => ⟨_, he, .of_made hb hm (Nat.le_refl _)⟩

theorem sum_st {A1 A2 : Option Addr} {m c1 c2 : Nat} {l1 l2 : List Nat} {w : World} (hm1 : l1.length = m) (hm2 : l2.length = m) (hl : m ≤ 281474976710656) (h1 : Rd w A1 l1) (h2 : Rd w A2 l2) (h81 : B8 l1) (h82 : B8 l2) :
    Calls Try.prog 16 #[.slice A1 m c1, .slice A2 m c2] w fun e w' => ∃ b, e = .returned (.slice (some ⟨b, 0, none⟩) m m) ∧ St w w' [] [bt b (xs l1 l2)] :=
  (sum_calls A1 A2 m c1 c2 l1 l2 w hm1 hm2 hl h1 h2 h81 h82).mono fun _ _ ⟨he, hm, hb⟩ => ⟨_, he, .of_made hb hm (Nat.le_refl _)⟩

/-- dst, a list from its head on, becomes c times src. -/
theorem mul_st {p : Addr} {c : Int} {bd n cd : Nat} {A : Option Addr} {cs : Nat} {D l : List Nat} {w : World} (hc0 : 0 ≤ c) (hc : c < 256) (hd : Bytes w bd D) (hD : D.length = n) (hl : l.length = n) (h8 : B8 l) (hD8 : B8 D) (hnm : n ≤ 281474976710656)
    (hs : Rd w A l) :
    Calls Try.prog 20 #[.pointer (some p), .int .u8 c, .slice (some ⟨bd, 0, none⟩) n cd, .slice A n cs] w fun e w' => e = .returned (.int .i64 0) ∧ St w w' [bt bd (l.map (gm c.toNat))] [] := by
  obtain ⟨c, rfl⟩ := Int.eq_ofNat_of_zero_le hc0
  refine (mul_calls p c bd 0 n cd A cs D l w (by omega) hd (by omega) hl h8 hD8 (by omega) hs (fun b o _ => .inr (Nat.zero_le _))).mono fun e w' ⟨he, hm, hk⟩ => ⟨he, .of_but hk ?_ hd.lt⟩
  rw [wr_all _ _ (by simp [hD, hl])] at hm
  exact hm

/-- .. is added to it. -/
theorem add_st {p : Addr} {c : Int} {bd n cd : Nat} {A : Option Addr} {cs : Nat} {D l : List Nat} {w : World} (hc0 : 0 ≤ c) (hc : c < 256) (hd : Bytes w bd D) (hD : D.length = n) (hl : l.length = n) (h8 : B8 l) (hD8 : B8 D) (hnm : n ≤ 281474976710656)
    (hs : Rd w A l) :
    Calls Try.prog 21 #[.pointer (some p), .int .u8 c, .slice (some ⟨bd, 0, none⟩) n cd, .slice A n cs] w fun e w' => e = .returned (.int .i64 0) ∧ St w w' [bt bd (xs D (l.map (gm c.toNat)))] [] := by
  obtain ⟨c, rfl⟩ := Int.eq_ofNat_of_zero_le hc0
  refine (add_calls p c bd 0 n cd A cs D l w (by omega) hd (by omega) hl h8 hD8 (by omega) hs (fun b o _ => .inr (Nat.zero_le _))).mono fun e w' ⟨he, hm, hk⟩ => ⟨he, .of_but hk ?_ hd.lt⟩
  rw [add_xs hD hl] at hm
  exact hm

end Go.Proofs.Ythfenafhdigniaa.L6
