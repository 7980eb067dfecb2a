/- The law SlicedNil. -/
import Derived.Test.YtcjcolmhhbnmgaaH7
namespace Go.Proofs.Ytcjcolmhhbnmgaa.Sl
set_option linter.unusedSimpArgs false
set_option linter.unusedVariables false
open Go Go.RowKit Go.Proofs.Ytcjcolmhhbnmgaa Go.Proofs.Ytcjcolmhhbnmgaa.Mm Go.Proofs.Ytcjcolmhhbnmgaa.Gf Go.Proofs.Ytcjcolmhhbnmgaa.Wr Go.Proofs.Ytcjcolmhhbnmgaa.St Go.Proofs.Ytcjcolmhhbnmgaa.Wd

theorem piece_rd {w0 w : World} {W N : List Ent} {b n : Nat} {t : TypeId} {D l : List Nat} (h : St w0 w W N) (m : (⟨b, t, row .u8 D⟩ : Ent) ∈ N) (e : (D.drop 3).take n = l) : Rd w (some ⟨b, 3, none⟩) l := by
  have hr := (h.rd m).piece 3 n
  rw [e] at hr
  exact hr

set_option maxRecDepth 100000 in
set_option maxHeartbeats 2000000 in
theorem nil_walk (c : Nat) (A1 : Option Addr) (n1 c1 : Nat) (l1 : List Nat) (A2 : Option Addr) (n2 c2 : Nat) (l2 : List Nat) (w : World) (_hc : c < 256) (h1 : (Kk.kSlice Kk.kByte 1).ok w.heap.size w [.slice A1 n1 c1] l1) (h2 : (Kk.kSlice Kk.kByte 1).ok w.heap.size w [.slice A2 n2 c2] l2) :
    Calls Try.prog 4 #[.int .u8 c, .slice A1 n1 c1, .slice A2 n2 c2] w fun e w' => e = .returned (.bool true) ∧ Below w.heap.size w w' := by
  obtain ⟨hl1, hn1, _, hr1, h81, _⟩ := open_bytes h1
  obtain ⟨hl2, hn2, _, hr2, h82, _⟩ := open_bytes h2
  have HL1 := Lib.hid hl1; have HR1 := Lib.hid hr1; have H81 := Lib.hid h81
  have HL2 := Lib.hid hl2; have HR2 := Lib.hid hr2; have H82 := Lib.hid h82
  clear h1 h2 hl1 hr1 h81 hl2 hr2 h82
  have S0 := Lib.hid (St.start w)
  go_enter Try.func4, Try.ntmps4
  go_wp2_with fail
  refine (new_st _).mono ?_
  rintro e w1 ⟨p, rfl, hh⟩
  have h1 := S0.out.call hh; clear hh S0
  try simp only [List.nil_append, List.cons_append, List.append_eq, Int.toNat_natCast] at h1
  have S1 := Lib.hid h1; clear h1
  go_wp2_with fail
  refine (awake_st _ _).mono ?_
  rintro e w2 ⟨rfl, hh⟩
  have h2 := S1.out.call hh; clear hh S1
  try simp only [List.nil_append, List.cons_append, List.append_eq, Int.toNat_natCast] at h2
  have S2 := Lib.hid h2; clear h2
  go_wp2_with fail
  refine (roomy_st HL1.out hn1 (S2.out.ext HR1.out) H81.out).mono ?_
  rintro e w3 ⟨b1, D1, rfl, hE1, hp1, _, hm1, hh⟩
  have h3 := S2.out.call hh; clear hh S2
  try simp only [List.nil_append, List.cons_append, List.append_eq, Int.toNat_natCast] at h3
  have HE1 := Lib.hid hE1; have HP1 := Lib.hid hp1; clear hE1 hp1
  have S3 := Lib.hid h3; clear h3
  go_wp2_with fail
  refine (roomy_st HL2.out hn2 (S3.out.ext HR2.out) H82.out).mono ?_
  rintro e w4 ⟨b2, D2, rfl, hE2, hp2, _, hm2, hh⟩
  have h4 := S3.out.call hh; clear hh S3
  try simp only [List.nil_append, List.cons_append, List.append_eq, Int.toNat_natCast] at h4
  have HE2 := Lib.hid hE2; have HP2 := Lib.hid hp2; clear hE2 hp2
  have S4 := Lib.hid h4; clear h4
  go_wp2_with fail
  refine (mul_nil _ _ _ _).mono ?_
  rintro e _ ⟨rfl, rfl⟩
  go_wp2_with fail
  refine (add_nil _ _ _ _).mono ?_
  rintro e _ ⟨rfl, rfl⟩
  go_wp2_with fail
  refine (same_st HL1.out (by omega) (piece_rd S4.out mem1 HP1.out) (S4.out.ext HR1.out)).mono ?_
  rintro e w5 ⟨rfl, hh⟩
  have h5 := S4.out.call hh; clear hh S4
  try simp only [List.nil_append, List.cons_append, List.append_eq, Int.toNat_natCast] at h5
  have S5 := Lib.hid h5; clear h5
  go_wp2_with fail
  refine (same_st HL2.out (by omega) (piece_rd S5.out mem0 HP2.out) (S5.out.ext HR2.out)).mono ?_
  rintro e w6 ⟨rfl, hh⟩
  have h6 := S5.out.call hh; clear hh S5
  try simp only [List.nil_append, List.cons_append, List.append_eq, Int.toNat_natCast] at h6
  have S6 := Lib.hid h6; clear h6
  go_wp2_with fail
  refine (edges_st (S6.out.blk mem1) HE1.out hn1).mono ?_
  rintro e _ ⟨rfl, rfl⟩
  go_wp2_with fail
  refine (edges_st (S6.out.blk mem0) HE2.out hn2).mono ?_
  rintro e _ ⟨rfl, rfl⟩
  go_wp2_with fail
  go_ret
  exact ⟨rfl, S6.out.below⟩

end Go.Proofs.Ytcjcolmhhbnmgaa.Sl
