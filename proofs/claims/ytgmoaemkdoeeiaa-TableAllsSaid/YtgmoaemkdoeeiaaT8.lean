/- Layer 5: one call of a script, and the scripts' laws TableMuls, TableAlls. -/
import Derived.Test.YtgmoaemkdoeeiaaT7a
import Derived.Test.YtgmoaemkdoeeiaaT7b
import Derived.Test.YtgmoaemkdoeeiaaT7c
import Derived.Test.YtgmoaemkdoeeiaaT7d
import Derived.Test.YtgmoaemkdoeeiaaT7e
namespace Go.Proofs.Ytgmoaemkdoeeiaa.L5t
open Go Go.RowKit Go.Proofs.Ytgmoaemkdoeeiaa Go.Proofs.Ytgmoaemkdoeeiaa.Mm Go.Proofs.Ytgmoaemkdoeeiaa.Gf Go.Proofs.Ytgmoaemkdoeeiaa.Wr Go.Proofs.Ytgmoaemkdoeeiaa.St Go.Proofs.Ytgmoaemkdoeeiaa.Tk

/-- A step of a script. -/
structure Op5 where
  kind : Int
  c : Nat
  b : Nat
  A1 : Option Addr
  n1 : Nat
  c1 : Nat
  D : List Nat
  A2 : Option Addr
  n2 : Nat
  c2 : Nat
  l : List Nat
  same : Bool
  nl : Bool
  ah : Int
  bh : Int
def Op5.cells (o : Op5) : Array Value := #[.int .i64 o.kind, .int .u8 o.c, .int .u8 o.b, .slice o.A1 o.n1 o.c1, .slice o.A2 o.n2 o.c2, .bool o.same, .bool o.nl, .int .i64 o.ah, .int .i64 o.bh]
structure Op5.Ok (o : Op5) (w : World) : Prop where
  hc : o.c < 256
  hb : o.b < 256
  hD : o.D.length = o.n1
  hl : o.l.length = o.n2
  hn1 : o.n1 ≤ 140737488351232
  hn2 : o.n2 ≤ 140737488351232
  r1 : Rd w o.A1 o.D
  r2 : Rd w o.A2 o.l
  d8 : B8 o.D
  l8 : B8 o.l
theorem Op5.Ok.ext {o : Op5} {w0 w : World} {N : List Ent} (h : o.Ok w0) (s : St w0 w [] N) : o.Ok w := ⟨h.hc, h.hb, h.hD, h.hl, h.hn1, h.hn2, s.ext h.r1, s.ext h.r2, h.d8, h.l8⟩

def kpv (kp : Option Nat) : Value := .pointer (kp.map fun b => ⟨b, 0, none⟩)

theorem slices_st (kp : Option Nat) (o : Op5) (w : World) (hk : ∀ b, kp = some b → Blk w b 52 (row .u8 tabL)) (ho : o.Ok w) :
    Calls Try.prog 33 #[kpv kp, .agg o.cells] w fun e w' => e = .returned (.bool true) ∧ St w w' [] [] := by
  obtain ⟨kind, c, b, A1, n1, c1, D, A2, n2, c2, l, same, nl, ah, bh⟩ := o
  obtain ⟨hc, hb, hD, hl, hn1, hn2, r1, r2, d8, l8⟩ := ho
  by_cases hki : kind = 1
  · subst hki
    cases kp with
    | none => cases same with
      | true => exact sl_mul_same_nil 1 c b A1 n1 c1 D A2 n2 c2 l nl ah bh w hc hD hl hn1 hn2 r1 r2 d8 l8
      | false => exact sl_mul_two_nil 1 c b A1 n1 c1 D A2 n2 c2 l nl ah bh w hc hD hl hn1 hn2 r1 r2 d8 l8
    | some kb => cases same with
      | true => exact sl_mul_same_ok kb 1 c b A1 n1 c1 D A2 n2 c2 l nl ah bh w (hk kb rfl) hc hD hl hn1 hn2 r1 r2 d8 l8
      | false =>
        by_cases hne : n1 = n2
        · subst hne; exact sl_mul_two_eq kb 1 c b A1 c1 D A2 n1 c2 l nl ah bh w (hk kb rfl) hc hD hl hn1 hn2 r1 r2 d8 l8
        · exact sl_mul_two_ne kb 1 c b A1 n1 c1 D A2 n2 c2 l nl ah bh w (hk kb rfl) hc hD hl hn1 hn2 r1 r2 d8 l8 hne
  · have hkk : (kind == 1) = false := by simpa using hki
    cases kp with
    | none => cases same with
      | true => exact sl_add_same_nil kind c b A1 n1 c1 D A2 n2 c2 l nl ah bh w hc hD hl hn1 hn2 r1 r2 d8 l8 hkk
      | false => exact sl_add_two_nil kind c b A1 n1 c1 D A2 n2 c2 l nl ah bh w hc hD hl hn1 hn2 r1 r2 d8 l8 hkk
    | some kb => cases same with
      | true => exact sl_add_same_ok kb kind c b A1 n1 c1 D A2 n2 c2 l nl ah bh w (hk kb rfl) hc hD hl hn1 hn2 r1 r2 d8 l8 hkk
      | false =>
        by_cases hne : n1 = n2
        · subst hne; exact sl_add_two_eq kb kind c b A1 c1 D A2 n1 c2 l nl ah bh w (hk kb rfl) hc hD hl hn1 hn2 r1 r2 d8 l8 hkk
        · exact sl_add_two_ne kb kind c b A1 n1 c1 D A2 n2 c2 l nl ah bh w (hk kb rfl) hc hD hl hn1 hn2 r1 r2 d8 l8 hne hkk

theorem slices_at (kp : Option Nat) (kind : Int) (c b : Nat) (A1 : Option Addr) (n1 c1 : Nat) (D : List Nat) (A2 : Option Addr) (n2 c2 : Nat) (l : List Nat) (same nl : Bool) (ah bh : Int) (w : World) (hk : ∀ b, kp = some b → Blk w b 52 (row .u8 tabL)) (ho : (⟨kind, c, b, A1, n1, c1, D, A2, n2, c2, l, same, nl, ah, bh⟩ : Op5).Ok w) :
    Calls Try.prog 33 #[kpv kp, .agg #[.int .i64 kind, .int .u8 c, .int .u8 b, .slice A1 n1 c1, .slice A2 n2 c2, .bool same, .bool nl, .int .i64 ah, .int .i64 bh]] w fun e w' => e = .returned (.bool true) ∧ St w w' [] [] := slices_st kp ⟨kind, c, b, A1, n1, c1, D, A2, n2, c2, l, same, nl, ah, bh⟩ w hk ho

theorem rowR_st (c : Nat) (w : World) (hc : c < 256) : Calls Try.prog 23 #[.int .u8 c] w fun e w' => ∃ b, e = .returned (.slice (some ⟨b, 0, none⟩) 256 256) ∧ St w w' [] [bt b (rowOf c)] :=
  (R2.row_calls c w hc).mono fun _ _ ⟨he, hm, hb⟩ => ⟨_, he, .of_made hb hm (Nat.le_refl _)⟩

set_option maxRecDepth 100000 in
set_option maxHeartbeats 4000000 in
theorem one_st (kp : Option Nat) (o : Op5) (w : World) (hk : ∀ b, kp = some b → Blk w b 52 (row .u8 tabL)) (ho : o.Ok w) :
    Calls Try.prog 29 #[kpv kp, .agg o.cells] w fun e w' => e = .returned (.bool true) ∧ St w w' [] [] := by
  have HK := Lib.hid hk; have HO := Lib.hid ho
  clear hk ho
  obtain ⟨kind, c, b, A1, n1, c1, D, A2, n2, c2, l, same, nl, ah, bh⟩ := o
  have hc : c < 256 := HO.out.hc
  have hb : b < 256 := HO.out.hb
  have SA := Lib.hid (St.start w)
  by_cases e4 : kind = 4
  · subst e4
    cases kp with
    | none =>
      change Calls Try.prog 29 #[.pointer none, .agg #[.int .i64 4, .int .u8 c, .int .u8 b, .slice A1 n1 c1, .slice A2 n2 c2, .bool same, .bool nl, .int .i64 ah, .int .i64 bh]] w _
      go_enter Try.func29, Try.ntmps29
      go_wp2_with ((with_reducible refine at_slot (N := 3) rfl ?_); refine box_law rfl 55 _ _ rfl rfl SA.out ?_; intro ob w0 hs; have SB := Lib.hid hs; clear hs SA; have oc0 := (SB.out.blk mem0).cell (i := 0) rfl; have oc1 := (SB.out.blk mem0).cell (i := 1) rfl; have oc2 := (SB.out.blk mem0).cell (i := 2) rfl; have oc3 := (SB.out.blk mem0).cell (i := 3) rfl; have oc4 := (SB.out.blk mem0).cell (i := 4) rfl; have oc5 := (SB.out.blk mem0).cell (i := 5) rfl; have oc6 := (SB.out.blk mem0).cell (i := 6) rfl; have oc7 := (SB.out.blk mem0).cell (i := 7) rfl; have oc8 := (SB.out.blk mem0).cell (i := 8) rfl; have HO0 := Lib.hid (HO.out.ext SB.out); have S0 := Lib.hid (St.start w0))
      go_wp2_with fail
      refine (row_nil _ _).mono ?_
      rintro e _ ⟨rfl, rfl⟩
      go_wp2_with fail
      go_ret
      exact ⟨rfl, (SB.out.call S0.out).nil⟩
    | some kb =>
      have HKB := Lib.hid (HK.out kb rfl)
      change Calls Try.prog 29 #[.pointer (some ⟨kb, 0, none⟩), .agg #[.int .i64 4, .int .u8 c, .int .u8 b, .slice A1 n1 c1, .slice A2 n2 c2, .bool same, .bool nl, .int .i64 ah, .int .i64 bh]] w _
      go_enter Try.func29, Try.ntmps29
      go_wp2_with ((with_reducible refine at_slot (N := 3) rfl ?_); refine box_law rfl 55 _ _ rfl rfl SA.out ?_; intro ob w0 hs; have SB := Lib.hid hs; clear hs SA; have oc0 := (SB.out.blk mem0).cell (i := 0) rfl; have oc1 := (SB.out.blk mem0).cell (i := 1) rfl; have oc2 := (SB.out.blk mem0).cell (i := 2) rfl; have oc3 := (SB.out.blk mem0).cell (i := 3) rfl; have oc4 := (SB.out.blk mem0).cell (i := 4) rfl; have oc5 := (SB.out.blk mem0).cell (i := 5) rfl; have oc6 := (SB.out.blk mem0).cell (i := 6) rfl; have oc7 := (SB.out.blk mem0).cell (i := 7) rfl; have oc8 := (SB.out.blk mem0).cell (i := 8) rfl; have HO0 := Lib.hid (HO.out.ext SB.out); have S0 := Lib.hid (St.start w0))
      have HKB0 := Lib.hid (SB.out.keep0 HKB.out)
      have hob := SB.out.lt mem0
      go_wp2_with fail
      refine (row_at kb c _ HKB0.out hc).mono ?_
      rintro e w1 ⟨rb, rfl, hh⟩
      have h1 := S0.out.call hh; clear hh S0
      try simp only [List.nil_append, List.cons_append, List.append_eq, Int.toNat_natCast] at h1
      have S1 := Lib.hid h1; clear h1
      obtain ⟨rc1, rf1⟩ := S1.out.rules
      go_wp2_with fail
      clear rc1 rf1
      refine (rowR_st c _ hc).mono ?_
      rintro e w2 ⟨qb, rfl, hh⟩
      have h2 := S1.out.call hh; clear hh S1
      try simp only [List.nil_append, List.cons_append, List.append_eq, Int.toNat_natCast] at h2
      have S2 := Lib.hid h2; clear h2
      obtain ⟨rc2, rf2⟩ := S2.out.rules
      clear rc2 rf2
      go_wp2_with fail
      refine (equal_st (rowOf_length c) (by decide) (S2.out.rd mem1) (S2.out.rd mem0)).mono ?_
      rintro e w3 ⟨rfl, hh⟩
      have h3 := S2.out.call hh; clear hh S2
      try simp only [List.nil_append, List.cons_append, List.append_eq, Int.toNat_natCast] at h3
      have S3 := Lib.hid h3; clear h3
      go_wp2_with fail
      go_ret
      exact ⟨rfl, (SB.out.call S3.out).nil⟩
  · by_cases e3 : kind = 3
    · subst e3
      cases kp with
      | none =>
        change Calls Try.prog 29 #[.pointer none, .agg #[.int .i64 3, .int .u8 c, .int .u8 b, .slice A1 n1 c1, .slice A2 n2 c2, .bool same, .bool nl, .int .i64 ah, .int .i64 bh]] w _
        go_enter Try.func29, Try.ntmps29
        go_wp2_with ((with_reducible refine at_slot (N := 3) rfl ?_); refine box_law rfl 55 _ _ rfl rfl SA.out ?_; intro ob w0 hs; have SB := Lib.hid hs; clear hs SA; have oc0 := (SB.out.blk mem0).cell (i := 0) rfl; have oc1 := (SB.out.blk mem0).cell (i := 1) rfl; have oc2 := (SB.out.blk mem0).cell (i := 2) rfl; have oc3 := (SB.out.blk mem0).cell (i := 3) rfl; have oc4 := (SB.out.blk mem0).cell (i := 4) rfl; have oc5 := (SB.out.blk mem0).cell (i := 5) rfl; have oc6 := (SB.out.blk mem0).cell (i := 6) rfl; have oc7 := (SB.out.blk mem0).cell (i := 7) rfl; have oc8 := (SB.out.blk mem0).cell (i := 8) rfl; have HO0 := Lib.hid (HO.out.ext SB.out); have S0 := Lib.hid (St.start w0))
        go_wp2_with fail
        refine (product_nil _ _ _).mono ?_
        rintro e _ ⟨rfl, rfl⟩
        go_wp2_with fail
        go_ret
        exact ⟨rfl, (SB.out.call S0.out).nil⟩
      | some kb =>
        have HKB := Lib.hid (HK.out kb rfl)
        change Calls Try.prog 29 #[.pointer (some ⟨kb, 0, none⟩), .agg #[.int .i64 3, .int .u8 c, .int .u8 b, .slice A1 n1 c1, .slice A2 n2 c2, .bool same, .bool nl, .int .i64 ah, .int .i64 bh]] w _
        go_enter Try.func29, Try.ntmps29
        go_wp2_with ((with_reducible refine at_slot (N := 3) rfl ?_); refine box_law rfl 55 _ _ rfl rfl SA.out ?_; intro ob w0 hs; have SB := Lib.hid hs; clear hs SA; have oc0 := (SB.out.blk mem0).cell (i := 0) rfl; have oc1 := (SB.out.blk mem0).cell (i := 1) rfl; have oc2 := (SB.out.blk mem0).cell (i := 2) rfl; have oc3 := (SB.out.blk mem0).cell (i := 3) rfl; have oc4 := (SB.out.blk mem0).cell (i := 4) rfl; have oc5 := (SB.out.blk mem0).cell (i := 5) rfl; have oc6 := (SB.out.blk mem0).cell (i := 6) rfl; have oc7 := (SB.out.blk mem0).cell (i := 7) rfl; have oc8 := (SB.out.blk mem0).cell (i := 8) rfl; have HO0 := Lib.hid (HO.out.ext SB.out); have S0 := Lib.hid (St.start w0))
        have HKB0 := Lib.hid (SB.out.keep0 HKB.out)
        have QA : Hid (∀ m : Nat, Calls Try.prog 21 #[.pointer (some ⟨kb, 0, none⟩), .int .u8 c, .int .u8 b] (w0.drewN m) (fun e w' => e = .returned (.int .u8 ((gm c b : Nat) : Int)) ∧ w' = w0.drewN m)) := Lib.hid (fun m => (product_at kb c b (w0.drewN m) HKB0.out hc hb).mono fun _ _ h => ⟨h.1, h.2.symm⟩)
        have QB : Hid (∀ m : Nat, Calls Try.prog 25 #[.int .u8 c, .int .u8 b] (w0.drewN m) (fun e w' => e = .returned (.int .u8 ((gm c b : Nat) : Int)) ∧ w' = w0.drewN m)) := Lib.hid (fun m => (R2.mul_calls c b (w0.drewN m) hc hb).mono fun _ _ h => ⟨h.1, h.2.symm⟩)
        go_wp2_with fail
        go_quiet ((first | (go_at_call 21; with_reducible exact Calls.quiet_of_same (QA.out _)) | (go_at_call 25; with_reducible exact Calls.quiet_of_same (QB.out _))))
        go_wp2_with fail
        go_ret
        exact ⟨rfl, (SB.out.call S0.out.drewN).nil⟩
    · have g3 : (kind == 3) = false := by simpa using e3
      have g4 : (kind == 4) = false := by simpa using e4
      by_cases e1 : kind = 1
      · have g1 : (kind == 1) = true := by simpa using e1
        clear e1 e3 e4
        change Calls Try.prog 29 #[kpv kp, .agg #[.int .i64 kind, .int .u8 c, .int .u8 b, .slice A1 n1 c1, .slice A2 n2 c2, .bool same, .bool nl, .int .i64 ah, .int .i64 bh]] w _
        go_enter Try.func29, Try.ntmps29
        go_wp2_with ((with_reducible refine at_slot (N := 3) rfl ?_); refine box_law rfl 55 _ _ rfl rfl SA.out ?_; intro ob w0 hs; have SB := Lib.hid hs; clear hs SA; have oc0 := (SB.out.blk mem0).cell (i := 0) rfl; have oc1 := (SB.out.blk mem0).cell (i := 1) rfl; have oc2 := (SB.out.blk mem0).cell (i := 2) rfl; have oc3 := (SB.out.blk mem0).cell (i := 3) rfl; have oc4 := (SB.out.blk mem0).cell (i := 4) rfl; have oc5 := (SB.out.blk mem0).cell (i := 5) rfl; have oc6 := (SB.out.blk mem0).cell (i := 6) rfl; have oc7 := (SB.out.blk mem0).cell (i := 7) rfl; have oc8 := (SB.out.blk mem0).cell (i := 8) rfl; have HO0 := Lib.hid (HO.out.ext SB.out); have S0 := Lib.hid (St.start w0))
        have HK0 : Hid (∀ b, kp = some b → Blk w0 b 52 (row .u8 tabL)) := Lib.hid (fun b hb => SB.out.keep0 (HK.out b hb))
        go_wp2_with fail
        refine (slices_at kp kind c b A1 n1 c1 D A2 n2 c2 l same nl ah bh _ HK0.out HO0.out).mono ?_
        rintro e w1 ⟨rfl, hh⟩
        have h1 := S0.out.call hh; clear hh S0
        try simp only [List.nil_append, List.cons_append, List.append_eq, Int.toNat_natCast] at h1
        have S1 := Lib.hid h1; clear h1
        go_wp2_with fail
        go_ret
        exact ⟨rfl, (SB.out.call S1.out).nil⟩
      · have g1 : (kind == 1) = false := by simpa using e1
        by_cases e2 : kind = 2
        · have g2 : (kind == 2) = true := by simpa using e2
          clear e1 e2 e3 e4
          change Calls Try.prog 29 #[kpv kp, .agg #[.int .i64 kind, .int .u8 c, .int .u8 b, .slice A1 n1 c1, .slice A2 n2 c2, .bool same, .bool nl, .int .i64 ah, .int .i64 bh]] w _
          go_enter Try.func29, Try.ntmps29
          go_wp2_with ((with_reducible refine at_slot (N := 3) rfl ?_); refine box_law rfl 55 _ _ rfl rfl SA.out ?_; intro ob w0 hs; have SB := Lib.hid hs; clear hs SA; have oc0 := (SB.out.blk mem0).cell (i := 0) rfl; have oc1 := (SB.out.blk mem0).cell (i := 1) rfl; have oc2 := (SB.out.blk mem0).cell (i := 2) rfl; have oc3 := (SB.out.blk mem0).cell (i := 3) rfl; have oc4 := (SB.out.blk mem0).cell (i := 4) rfl; have oc5 := (SB.out.blk mem0).cell (i := 5) rfl; have oc6 := (SB.out.blk mem0).cell (i := 6) rfl; have oc7 := (SB.out.blk mem0).cell (i := 7) rfl; have oc8 := (SB.out.blk mem0).cell (i := 8) rfl; have HO0 := Lib.hid (HO.out.ext SB.out); have S0 := Lib.hid (St.start w0))
          have HK0 : Hid (∀ b, kp = some b → Blk w0 b 52 (row .u8 tabL)) := Lib.hid (fun b hb => SB.out.keep0 (HK.out b hb))
          go_wp2_with fail
          refine (slices_at kp kind c b A1 n1 c1 D A2 n2 c2 l same nl ah bh _ HK0.out HO0.out).mono ?_
          rintro e w1 ⟨rfl, hh⟩
          have h1 := S0.out.call hh; clear hh S0
          try simp only [List.nil_append, List.cons_append, List.append_eq, Int.toNat_natCast] at h1
          have S1 := Lib.hid h1; clear h1
          go_wp2_with fail
          go_ret
          exact ⟨rfl, (SB.out.call S1.out).nil⟩
        · have g2 : (kind == 2) = false := by simpa using e2
          clear e1 e2 e3 e4
          change Calls Try.prog 29 #[kpv kp, .agg #[.int .i64 kind, .int .u8 c, .int .u8 b, .slice A1 n1 c1, .slice A2 n2 c2, .bool same, .bool nl, .int .i64 ah, .int .i64 bh]] w _
          go_enter Try.func29, Try.ntmps29
          go_wp2_with ((with_reducible refine at_slot (N := 3) rfl ?_); refine box_law rfl 55 _ _ rfl rfl SA.out ?_; intro ob w0 hs; have SB := Lib.hid hs; clear hs SA; have oc0 := (SB.out.blk mem0).cell (i := 0) rfl; have oc1 := (SB.out.blk mem0).cell (i := 1) rfl; have oc2 := (SB.out.blk mem0).cell (i := 2) rfl; have oc3 := (SB.out.blk mem0).cell (i := 3) rfl; have oc4 := (SB.out.blk mem0).cell (i := 4) rfl; have oc5 := (SB.out.blk mem0).cell (i := 5) rfl; have oc6 := (SB.out.blk mem0).cell (i := 6) rfl; have oc7 := (SB.out.blk mem0).cell (i := 7) rfl; have oc8 := (SB.out.blk mem0).cell (i := 8) rfl; have HO0 := Lib.hid (HO.out.ext SB.out); have S0 := Lib.hid (St.start w0))
          go_wp2_with fail
          go_ret
          exact ⟨rfl, (SB.out.call S0.out).nil⟩

end Go.Proofs.Ytgmoaemkdoeeiaa.L5t
