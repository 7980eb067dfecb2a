/- Layer 7 (sliced): the exported calls. -/
import Derived.Test.YtdbfkjhdnbmpeaaSt7
namespace Go.Proofs.Ytdbfkjhdnbmpeaa.Sl
set_option linter.unusedSimpArgs false
set_option linter.unusedVariables false
open Go Go.RowKit Go.Proofs.Ytdbfkjhdnbmpeaa Go.Proofs.Ytdbfkjhdnbmpeaa.Mm Go.Proofs.Ytdbfkjhdnbmpeaa.Gf Go.Proofs.Ytdbfkjhdnbmpeaa.Wr Go.Proofs.Ytdbfkjhdnbmpeaa.St Go.Proofs.Ytdbfkjhdnbmpeaa.Wd

set_option maxRecDepth 100000 in
set_option maxHeartbeats 4000000 in
theorem run_zero (c : Nat) (keep : Int) (A B : Option Addr) (cd cs : Nat) (w : World) (hc : c < 256) :
    Calls Try.prog 79 #[.int .u8 (c : Int), .slice A 0 cd, .slice B 0 cs, .int .u8 keep] w fun e w' => e = .returned (.tuple #[]) ∧ St w w' [] [] := by
  have S0 := Lib.hid (St.start w)
  have e0 : (Value.agg (Array.replicate 8 (.int .u8 0))).cells = row .u8 (zs 8) := by kernel_rfl
  have e1 : (row .u8 (cols c)).size = 8 := by rw [row_size, cols_length]
  go_enter Try.func79, Try.ntmps79
  go_wp2_with fail
  refine (columns_q c _ hc).mono ?_
  rintro e w1 ⟨rfl, hh⟩
  have S1 := Lib.hid (S0.out.call hh); clear hh S0
  go_wp2_with (first
    | ((with_reducible refine at_slot (N := 8) rfl ?_); refine ev rfl (alloc_run _ (.agg (Array.replicate 8 (.int .u8 0))) (row .u8 (zs 8)) rfl (by kernel_rfl) e0) ?_)
    | ((with_reducible refine at_store (p := 8) rfl ?_); refine store_blk rfl _ _ _ rfl w1.heap.size (row .u8 (cols c)) rfl rfl _ _ (Blk.new w1 _ _) (by rw [e1]; kernel_rfl) (by rw [e1]; rfl) (row_all _ _) ?_; intro w2 hs2 hk2))
  have h2 := (S1.out.alloc 138 (row .u8 (zs 8))).callN (N1 := []) (St.of_but hk2 hs2 (Blk.new w1 _ _).lt)
  have S2 := Lib.hid h2
  clear h2 hs2 hk2 S1 e0 e1
  go_loopw [10] (fun vi wq => vi = .int .i64 0 ∧ St w wq [] []) (fun vi _ => 0)
  case atStart => exact ⟨rfl, S2.out.nil⟩
  case round =>
    clear S2
    obtain ⟨rfl, hs⟩ := hrel
    have S3 := Lib.hid hs; clear hs
    go_wp2_with fail
    refine Qt.quiet_tail 7 (by kernel_rfl) (by kernel_rfl) ?_
    simp only [List.take_succ_cons, List.take_zero, List.drop_succ_cons, List.drop_zero]
    repeat (quiet_step (fail))
    refine wpQuiet_nil ?_
    rintro _ ⟨nq, rfl⟩
    go_wp2_with fail
    all_goals (
      refine (tail_zero w1.heap.size _ _ _ _ _ _ _).mono ?_
      rintro e w4 ⟨rfl, hh⟩
      have S4 := Lib.hid ((S3.out.drewN (n := nq)).call hh)
      clear hh
      go_wp2_with fail
      exact bodyPost_end (results_none rfl _ _ _) rfl ⟨rfl, S4.out.nil⟩)

theorem refuses_nil (v1 v2 : Value) (w : World) : Calls Try.prog 78 #[.pointer none, v1, v2] w fun e w' => e = .returned (.int .i64 1) ∧ w = w' := by
  go_enter Try.func78, Try.ntmps78
  go_wp2
  go_ret
  exact ⟨rfl, rfl⟩

theorem refuses_lens (p : Addr) (A1 A2 : Option Addr) (n m c1 c2 : Nat) (w : World) (h : n ≠ m) : Calls Try.prog 78 #[.pointer (some p), .slice A1 n c1, .slice A2 m c2] w fun e w' => e = .returned (.int .i64 6) ∧ w = w' := by
  have h1 : (n == m) = false := by simpa using h
  have h2 : (((n : Nat) : Int) != ((m : Nat) : Int)) = true := by rw [bne_iff_ne]; omega
  have h3 : (n != m) = true := by rw [bne_iff_ne]; exact h
  clear h
  go_enter Try.func78, Try.ntmps78
  go_wp2
  go_ret
  exact ⟨rfl, rfl⟩

theorem refuses_ok (p : Addr) (A1 A2 : Option Addr) (n c1 c2 : Nat) (w : World) : Calls Try.prog 78 #[.pointer (some p), .slice A1 n c1, .slice A2 n c2] w fun e w' => e = .returned (.int .i64 0) ∧ w = w' := by
  go_enter Try.func78, Try.ntmps78
  go_wp2
  go_ret
  exact ⟨rfl, rfl⟩

theorem mul_nil (c : Int) (v1 v2 : Value) (w : World) : Calls Try.prog 76 #[.pointer none, .int .u8 c, v1, v2] w fun e w' => e = .returned (.int .i64 1) ∧ w = w' := by
  go_enter Try.func76, Try.ntmps76
  go_wp2_with fail
  refine (refuses_nil _ _ _).mono ?_
  rintro e _ ⟨rfl, rfl⟩
  go_wp2_with fail
  go_ret
  exact ⟨rfl, rfl⟩

theorem add_nil (c : Int) (v1 v2 : Value) (w : World) : Calls Try.prog 77 #[.pointer none, .int .u8 c, v1, v2] w fun e w' => e = .returned (.int .i64 1) ∧ w = w' := by
  go_enter Try.func77, Try.ntmps77
  go_wp2_with fail
  refine (refuses_nil _ _ _).mono ?_
  rintro e _ ⟨rfl, rfl⟩
  go_wp2_with fail
  go_ret
  exact ⟨rfl, rfl⟩

theorem mul_lens (p : Addr) (c : Int) (A1 A2 : Option Addr) (n m c1 c2 : Nat) (w : World) (h : n ≠ m) : Calls Try.prog 76 #[.pointer (some p), .int .u8 c, .slice A1 n c1, .slice A2 m c2] w fun e w' => e = .returned (.int .i64 6) ∧ w = w' := by
  have H := Lib.hid h
  clear h
  go_enter Try.func76, Try.ntmps76
  go_wp2_with fail
  refine (refuses_lens _ _ _ _ _ _ _ _ H.out).mono ?_
  rintro e _ ⟨rfl, rfl⟩
  go_wp2_with fail
  go_ret
  exact ⟨rfl, rfl⟩

theorem add_lens (p : Addr) (c : Int) (A1 A2 : Option Addr) (n m c1 c2 : Nat) (w : World) (h : n ≠ m) : Calls Try.prog 77 #[.pointer (some p), .int .u8 c, .slice A1 n c1, .slice A2 m c2] w fun e w' => e = .returned (.int .i64 6) ∧ w = w' := by
  have H := Lib.hid h
  clear h
  go_enter Try.func77, Try.ntmps77
  go_wp2_with fail
  refine (refuses_lens _ _ _ _ _ _ _ _ H.out).mono ?_
  rintro e _ ⟨rfl, rfl⟩
  go_wp2_with fail
  go_ret
  exact ⟨rfl, rfl⟩

/-- Where source and target may lie: the list l reads at A; A is the target's own piece, or lies in another block, or l is empty. -/
def Srcs (w : World) (bd od : Nat) (A : Option Addr) (D l : List Nat) : Prop := 0 < l.length → ∃ bs os, A = some ⟨bs, os, none⟩ ∧ Src w bd od bs os D l

theorem mul_at {p : Addr} {c : Int} {bd od n cd : Nat} {A : Option Addr} {cs : Nat} {D l : List Nat} {w : World} (hc0 : 0 ≤ c) (hc : c < 256) (hd : Bytes w bd D) (ho : od + n ≤ D.length) (hl : l.length = n) (h8 : B8 l) (hD8 : B8 D) (hcd : n ≤ cd) (hcs : n ≤ cs) (hnm : n ≤ 281474976710656)
    (hs : Srcs w bd od A D l) :
    Calls Try.prog 76 #[.pointer (some p), .int .u8 c, .slice (some ⟨bd, od, none⟩) n cd, .slice A n cs] w fun e w' => e = .returned (.int .i64 0) ∧ St w w' [bt bd (Wr.wr D od (l.map (gm c.toNat)))] [] := by
  obtain ⟨c, rfl⟩ := Int.eq_ofNat_of_zero_le hc0
  have hc' : c < 256 := by omega
  rw [← outs_zero _ od D, Int.toNat_natCast]
  by_cases hn : n = 0
  · subst hn
    have hl' : l = [] := List.eq_nil_of_length_eq_zero hl
    subst hl'
    have S0 := Lib.hid (St.start1 hd)
    have E := Lib.hid (show Wr.wr D od (outs c 0 od D []) = D from rfl)
    clear hd hs
    go_enter Try.func76, Try.ntmps76
    go_wp2_with fail
    refine (refuses_ok _ _ _ _ _ _ _).mono ?_
    rintro e _ ⟨rfl, rfl⟩
    go_wp2_with fail
    refine (run_zero c 0 _ _ _ _ _ hc').mono ?_
    rintro e w1 ⟨rfl, hh⟩
    have h1 := S0.out.call hh; clear hh S0
    try simp only [List.nil_append, List.cons_append, List.append_eq, Int.toNat_natCast] at h1
    have S1 := Lib.hid h1; clear h1
    go_wp2_with fail
    go_ret
    refine ⟨rfl, ?_⟩
    rw [E.out]
    exact S1.out.drop (List.nil_sublist _)
  · obtain ⟨bs, os, rfl, hs'⟩ := hs (by omega)
    have HR := Lib.hid (fun w9 (h : w9 = w) => run_mul c bd od n cd bs os cs D l w9 hc' (by rw [h]; exact hd) (by omega) h8 hD8 hl hcd hcs hnm (by rw [h]; exact hs'))
    clear hs hs' hd h8 hD8 hl ho hn
    go_enter Try.func76, Try.ntmps76
    go_wp2_with fail
    refine (refuses_ok _ _ _ _ _ _ _).mono ?_
    rintro e _ ⟨rfl, rfl⟩
    go_wp2_with fail
    refine (HR.out _ rfl).mono ?_
    rintro e w' ⟨rfl, hh⟩
    have HH := Lib.hid hh; clear hh
    go_wp2_with fail
    go_ret
    exact ⟨rfl, HH.out⟩

theorem add_at {p : Addr} {c : Int} {bd od n cd : Nat} {A : Option Addr} {cs : Nat} {D l : List Nat} {w : World} (hc0 : 0 ≤ c) (hc : c < 256) (hd : Bytes w bd D) (ho : od + n ≤ D.length) (hl : l.length = n) (h8 : B8 l) (hD8 : B8 D) (hcd : n ≤ cd) (hcs : n ≤ cs) (hnm : n ≤ 281474976710656)
    (hs : Srcs w bd od A D l) :
    Calls Try.prog 77 #[.pointer (some p), .int .u8 c, .slice (some ⟨bd, od, none⟩) n cd, .slice A n cs] w fun e w' => e = .returned (.int .i64 0) ∧ St w w' [bt bd (Wr.wr D od ((List.range l.length).map fun i => D.getD (od + i) 0 ^^^ gm c.toNat (l.getD i 0)))] [] := by
  obtain ⟨c, rfl⟩ := Int.eq_ofNat_of_zero_le hc0
  have hc' : c < 256 := by omega
  rw [Int.toNat_natCast, ← outs_full hD8 (by omega)]
  by_cases hn : n = 0
  · subst hn
    have hl' : l = [] := List.eq_nil_of_length_eq_zero hl
    subst hl'
    have S0 := Lib.hid (St.start1 hd)
    have E := Lib.hid (show Wr.wr D od (outs c 255 od D []) = D from rfl)
    clear hd hs
    go_enter Try.func77, Try.ntmps77
    go_wp2_with fail
    refine (refuses_ok _ _ _ _ _ _ _).mono ?_
    rintro e _ ⟨rfl, rfl⟩
    go_wp2_with fail
    refine (run_zero c 255 _ _ _ _ _ hc').mono ?_
    rintro e w1 ⟨rfl, hh⟩
    have h1 := S0.out.call hh; clear hh S0
    try simp only [List.nil_append, List.cons_append, List.append_eq, Int.toNat_natCast] at h1
    have S1 := Lib.hid h1; clear h1
    go_wp2_with fail
    go_ret
    refine ⟨rfl, ?_⟩
    rw [E.out]
    exact S1.out.drop (List.nil_sublist _)
  · obtain ⟨bs, os, rfl, hs'⟩ := hs (by omega)
    have HR := Lib.hid (fun w9 (h : w9 = w) => run_add c bd od n cd bs os cs D l w9 hc' (by rw [h]; exact hd) (by omega) h8 hD8 hl hcd hcs hnm (by rw [h]; exact hs'))
    clear hs hs' hd h8 hD8 hl ho hn
    go_enter Try.func77, Try.ntmps77
    go_wp2_with fail
    refine (refuses_ok _ _ _ _ _ _ _).mono ?_
    rintro e _ ⟨rfl, rfl⟩
    go_wp2_with fail
    refine (HR.out _ rfl).mono ?_
    rintro e w' ⟨rfl, hh⟩
    have HH := Lib.hid hh; clear hh
    go_wp2_with fail
    go_ret
    exact ⟨rfl, HH.out⟩

theorem new_st (w : World) : Calls Try.prog 42 #[] w fun e w' => ∃ p, e = .returned (.pointer (some p)) ∧ St w w' [] [] := by
  have S0 := Lib.hid ((St.start w).alloc 110 #[.bool true])
  go_enter Try.func42, Try.ntmps42
  go_wp2
  go_ret
  exact ⟨_, rfl, S0.out.nil⟩

/-- The eight bytes of a word. -/
def b8 (v : Nat) : List Nat := (List.range 8).map fun i => v / 2 ^ (8 * i) % 256
theorem b8_length (v : Nat) : (b8 v).length = 8 := by simp [b8]
theorem b8_b8 (v : Nat) : B8 (b8 v) := by
  intro x hx
  obtain ⟨i, _, rfl⟩ := List.mem_map.1 hx
  exact Nat.mod_lt _ (by decide)
theorem W8_b8 {v : Nat} (h : v < 18446744073709551616) : W8 (b8 v) = v := by
  simp only [b8, List.range_succ, List.range_zero, List.nil_append, List.map_append, List.map_cons, List.map_nil, List.cons_append, W8]
  omega

theorem cols_b8 {c : Nat} (hc : c < 256) : B8 (cols c) := by
  intro x hx
  obtain ⟨i, _, rfl⟩ := List.mem_map.1 hx
  exact gm_lt _ hc

end Go.Proofs.Ytdbfkjhdnbmpeaa.Sl
