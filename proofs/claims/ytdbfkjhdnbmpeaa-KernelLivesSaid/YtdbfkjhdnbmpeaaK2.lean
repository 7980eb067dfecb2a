/- The law SlicedLinear. -/
import Derived.Test.YtdbfkjhdnbmpeaaK1
import Derived.Test.YtdbfkjhdnbmpeaaG9
namespace Go.Proofs.Ytdbfkjhdnbmpeaa.Sl
set_option linter.unusedSimpArgs false
set_option linter.unusedVariables false
open Go Go.RowKit Go.Proofs.Ytdbfkjhdnbmpeaa Go.Proofs.Ytdbfkjhdnbmpeaa.Mm Go.Proofs.Ytdbfkjhdnbmpeaa.Gf Go.Proofs.Ytdbfkjhdnbmpeaa.Wr Go.Proofs.Ytdbfkjhdnbmpeaa.St Go.Proofs.Ytdbfkjhdnbmpeaa.Wd

theorem Srcs.ext {w0 w : World} {N : List Ent} {bd od : Nat} {t : TypeId} {A : Option Addr} {X : Array Value} {D l : List Nat} (h : St w0 w [] N) (m : (⟨bd, t, X⟩ : Ent) ∈ N) (r : Rd w0 A l) : Srcs w bd od A D l := by
  intro h0
  obtain ⟨bs, os, rfl, hc⟩ := r h0
  have h1 := cell_lt (hc 0 h0)
  have h2 := h.ge m
  obtain ⟨bs', os', e, hc'⟩ := (h.ext (fun _ => ⟨bs, os, rfl, hc⟩ : Rd w0 (some ⟨bs, os, none⟩) l)) h0
  injection e with e; injection e with e1 e2 _; subst e1 e2
  exact ⟨bs, os, rfl, .inr ⟨by simp at h1; omega, hc'⟩⟩
theorem Srcs.new {w : World} {bd od b o : Nat} {D l : List Nat} (r : Rd w (some ⟨b, o, none⟩) l) (hne : b ≠ bd) : Srcs w bd od (some ⟨b, o, none⟩) D l :=
  Srcs.other r (fun a h => by injection h with h; rw [← h]; exact hne)
theorem Srcs.self {w : World} {bd : Nat} {D : List Nat} : Srcs w bd 0 (some ⟨bd, 0, none⟩) D D := Srcs.own (fun k _ => by rw [Nat.zero_add])

/-- dst, a list from its head on, becomes c times src. -/
theorem mul_st {p : Addr} {c : Int} {bd n cd : Nat} {A : Option Addr} {cs : Nat} {D l : List Nat} {w : World} (hc0 : 0 ≤ c) (hc : c < 256) (hd : Bytes w bd D) (hD : D.length = n) (hl : l.length = n) (h8 : B8 l) (hD8 : B8 D) (hcd : n ≤ cd) (hcs : n ≤ cs) (hnm : n ≤ 281474976710656)
    (hs : Srcs w bd 0 A D l) :
    Calls Try.prog 76 #[.pointer (some p), .int .u8 c, .slice (some ⟨bd, 0, none⟩) n cd, .slice A n cs] w fun e w' => e = .returned (.int .i64 0) ∧ St w w' [bt bd (l.map (gm c.toNat))] [] := by
  refine (mul_at hc0 hc hd (by omega) hl h8 hD8 hcd hcs hnm hs).mono fun e w' ⟨he, hm⟩ => ⟨he, ?_⟩
  rw [wr_all _ _ (by simp [hD, hl])] at hm
  exact hm
/-- .. is added to it. -/
theorem add_st {p : Addr} {c : Int} {bd n cd : Nat} {A : Option Addr} {cs : Nat} {D l : List Nat} {w : World} (hc0 : 0 ≤ c) (hc : c < 256) (hd : Bytes w bd D) (hD : D.length = n) (hl : l.length = n) (h8 : B8 l) (hD8 : B8 D) (hcd : n ≤ cd) (hcs : n ≤ cs) (hnm : n ≤ 281474976710656)
    (hs : Srcs w bd 0 A D l) :
    Calls Try.prog 77 #[.pointer (some p), .int .u8 c, .slice (some ⟨bd, 0, none⟩) n cd, .slice A n cs] w fun e w' => e = .returned (.int .i64 0) ∧ St w w' [bt bd (xs D (l.map (gm c.toNat)))] [] := by
  refine (add_at hc0 hc hd (by omega) hl h8 hD8 hcd hcs hnm hs).mono fun e w' ⟨he, hm⟩ => ⟨he, ?_⟩
  rw [hl, add_xs hD hl] at hm
  exact hm

/-- Nothing to do. -/
theorem mul_zero {p : Addr} {c : Int} {A B : Option Addr} {cd cs : Nat} {w : World} (hc0 : 0 ≤ c) (hc : c < 256) :
    Calls Try.prog 76 #[.pointer (some p), .int .u8 c, .slice A 0 cd, .slice B 0 cs] w fun e w' => e = .returned (.int .i64 0) ∧ St w w' [] [] := by
  obtain ⟨c, rfl⟩ := Int.eq_ofNat_of_zero_le hc0
  have hc' : c < 256 := by omega
  have S0 := Lib.hid (St.start w)
  go_enter Try.func76, Try.ntmps76
  go_wp2_with fail
  refine (refuses_ok _ _ _ _ _ _ _).mono ?_
  rintro e _ ⟨rfl, rfl⟩
  go_wp2_with fail
  refine (run_zero c 0 _ _ _ _ _ hc').mono ?_
  rintro e w1 ⟨rfl, hh⟩
  have h1 := S0.out.call hh; clear hh S0
  try simp only [List.nil_append, List.cons_append, List.append_eq, Int.toNat_natCast] at h1
  have S1 := Lib.hid h1; clear h1
  go_wp2_with fail
  go_ret
  exact ⟨rfl, S1.out⟩
theorem add_zero {p : Addr} {c : Int} {A B : Option Addr} {cd cs : Nat} {w : World} (hc0 : 0 ≤ c) (hc : c < 256) :
    Calls Try.prog 77 #[.pointer (some p), .int .u8 c, .slice A 0 cd, .slice B 0 cs] w fun e w' => e = .returned (.int .i64 0) ∧ St w w' [] [] := by
  obtain ⟨c, rfl⟩ := Int.eq_ofNat_of_zero_le hc0
  have hc' : c < 256 := by omega
  have S0 := Lib.hid (St.start w)
  go_enter Try.func77, Try.ntmps77
  go_wp2_with fail
  refine (refuses_ok _ _ _ _ _ _ _).mono ?_
  rintro e _ ⟨rfl, rfl⟩
  go_wp2_with fail
  refine (run_zero c 255 _ _ _ _ _ hc').mono ?_
  rintro e w1 ⟨rfl, hh⟩
  have h1 := S0.out.call hh; clear hh S0
  try simp only [List.nil_append, List.cons_append, List.append_eq, Int.toNat_natCast] at h1
  have S1 := Lib.hid h1; clear h1
  go_wp2_with fail
  go_ret
  exact ⟨rfl, S1.out⟩

theorem xor8_any {c d : Nat} (hc : c < 256) (hd : d < 256) : Go.bits .xor .u8 (c : Int) (d : Int) = ((c ^^^ d : Nat) : Int) := Bt.xor8 hc hd
theorem zs_len (n : Nat) : (zs n).length = n := zs_length n
theorem zs_b8 (n : Nat) : B8 (zs n) := B8.zeros n

end Go.Proofs.Ytdbfkjhdnbmpeaa.Sl
