/- Layer 6: the contracts of the kernel's calls and of the laws' helpers, over St. -/
import Derived.Test.YtdbfkjhdnbmpeaaL7
import Derived.Test.YtdbfkjhdnbmpeaaGr
namespace Go.Proofs.Ytdbfkjhdnbmpeaa.L6
set_option linter.unusedSimpArgs false
set_option linter.unusedVariables false
open Go Go.RowKit Go.Proofs.Ytdbfkjhdnbmpeaa Go.Proofs.Ytdbfkjhdnbmpeaa.Mm Go.Proofs.Ytdbfkjhdnbmpeaa.Gf Go.Proofs.Ytdbfkjhdnbmpeaa.Wr Go.Proofs.Ytdbfkjhdnbmpeaa.Nb Go.Proofs.Ytdbfkjhdnbmpeaa.St

theorem new_st (w : World) : Calls Try.prog 41 #[] w fun e w' => ∃ p, e = .returned (.pointer (some p)) ∧ St w w' [] [] :=
  (new_calls w).mono fun _ _ ⟨he, hb⟩ => ⟨_, he, .of_below hb⟩

/-- dst, a list from its head on, becomes c times src. -/
theorem mul_st {p : Addr} {c : Int} {bd n cd : Nat} {A : Option Addr} {cs : Nat} {D l : List Nat} {w : World} (hc0 : 0 ≤ c) (hc : c < 256) (hd : Bytes w bd D) (hD : D.length = n) (hl : l.length = n) (h8 : B8 l) (hD8 : B8 D) (hnm : n ≤ 281474976710656)
    (hs : Rd w A l) :
    Calls Try.prog 73 #[.pointer (some p), .int .u8 c, .slice (some ⟨bd, 0, none⟩) n cd, .slice A n cs] w fun e w' => e = .returned (.int .i64 0) ∧ St w w' [bt bd (l.map (gm c.toNat))] [] := by
  obtain ⟨c, rfl⟩ := Int.eq_ofNat_of_zero_le hc0
  refine (mul_calls p c bd 0 n cd A cs D l w (by omega) hd (by omega) hl h8 hD8 (by omega) hs (fun b o _ => .inr (Nat.zero_le _))).mono fun e w' ⟨he, hm, hk⟩ => ⟨he, .of_but hk ?_ hd.lt⟩
  rw [wr_all _ _ (by simp [hD, hl])] at hm
  exact hm

/-- .. is added to it. -/
theorem add_st {p : Addr} {c : Int} {bd n cd : Nat} {A : Option Addr} {cs : Nat} {D l : List Nat} {w : World} (hc0 : 0 ≤ c) (hc : c < 256) (hd : Bytes w bd D) (hD : D.length = n) (hl : l.length = n) (h8 : B8 l) (hD8 : B8 D) (hnm : n ≤ 281474976710656)
    (hs : Rd w A l) :
    Calls Try.prog 74 #[.pointer (some p), .int .u8 c, .slice (some ⟨bd, 0, none⟩) n cd, .slice A n cs] w fun e w' => e = .returned (.int .i64 0) ∧ St w w' [bt bd (xs D (l.map (gm c.toNat)))] [] := by
  obtain ⟨c, rfl⟩ := Int.eq_ofNat_of_zero_le hc0
  refine (add_calls p c bd 0 n cd A cs D l w (by omega) hd (by omega) hl h8 hD8 (by omega) hs (fun b o _ => .inr (Nat.zero_le _))).mono fun e w' ⟨he, hm, hk⟩ => ⟨he, .of_but hk ?_ hd.lt⟩
  rw [add_xs hD hl] at hm
  exact hm

end Go.Proofs.Ytdbfkjhdnbmpeaa.L6
