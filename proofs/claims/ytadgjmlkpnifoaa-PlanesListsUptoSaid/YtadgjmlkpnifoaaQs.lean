/- Layer 8: lists of lists of words; Quarters. -/
import Derived.Test.YtadgjmlkpnifoaaH8
import Derived.Test.YtadgjmlkpnifoaaAk
import Derived.Deep.RegionHeld3
namespace Go.Proofs.Ytadgjmlkpnifoaa.Pq
set_option linter.unusedSimpArgs false
set_option linter.unusedVariables false
open Go Go.RowKit Go.Proofs.Ytadgjmlkpnifoaa Go.Proofs.Ytadgjmlkpnifoaa.Mm Go.Proofs.Ytadgjmlkpnifoaa.Gh Go.Proofs.Ytadgjmlkpnifoaa.Wr Go.Proofs.Ytadgjmlkpnifoaa.St

/-- A list that reads wherever its blocks are as they were. -/
def Port (A : Option Addr) (l : List Nat) (G : List Ent) : Prop := ∀ (w0 w : World) (W N : List Ent), St w0 w W N → (∀ e ∈ G, e ∈ N) → RdV e16 w A l
theorem Port.mono {A : Option Addr} {l : List Nat} {G G' : List Ent} (h : Port A l G) (hs : ∀ e ∈ G, e ∈ G') : Port A l G' := fun w0 w W N hw hm => h w0 w W N hw fun e he => hm e (hs e he)
/-- A list of lists behind an address. -/
def RdQ (w : World) (A : Option Addr) (ls : List (List Nat)) : Prop :=
  ∃ ds : List Sd, RdV es w A ds ∧ ds.length = ls.length ∧ ∀ i d, ds[i]? = some d → d.n = (ls.getD i []).length ∧ RdV e16 w d.A (ls.getD i [])
def PortL (A : Option Addr) (ls : List (List Nat)) (G : List Ent) : Prop := ∀ (w0 w : World) (W N : List Ent), St w0 w W N → (∀ e ∈ G, e ∈ N) → RdQ w A ls
/-- The lists that the slices ds hold. -/
def Rows (ds : List Sd) (ls : List (List Nat)) (G : List Ent) : Prop :=
  ds.length = ls.length ∧ ∀ i d, ds[i]? = some d → d.n = (ls.getD i []).length ∧ Port d.A (ls.getD i []) G
theorem Rows.nil : Rows [] [] [] := ⟨rfl, fun i d h => by simp at h⟩
theorem Rows.snoc {ds : List Sd} {ls : List (List Nat)} {G G1 : List Ent} {d : Sd} {l : List Nat} (h : Rows ds ls G) (hn : d.n = l.length) (hp : Port d.A l G1) : Rows (ds ++ [d]) (ls ++ [l]) (G1 ++ G) := by
  refine ⟨by simp [h.1], fun i d' hd => ?_⟩
  by_cases hi : i < ds.length
  · rw [List.getElem?_append_left hi] at hd
    obtain ⟨h1, h2⟩ := h.2 i d' hd
    have e : (ls ++ [l]).getD i [] = ls.getD i [] := by
      rw [List.getD_eq_getElem?_getD, List.getD_eq_getElem?_getD, List.getElem?_append_left (by rw [← h.1]; exact hi)]
    rw [e]
    exact ⟨h1, h2.mono fun e he => by simp [he]⟩
  · rw [List.getElem?_append_right (by omega)] at hd
    have hi0 : i - ds.length = 0 := by
      rcases Nat.eq_zero_or_pos (i - ds.length) with h0 | h0
      · exact h0
      · rw [List.getElem?_eq_none (by simp; omega)] at hd; cases hd
    rw [hi0] at hd
    simp at hd
    subst hd
    have e : (ls ++ [l]).getD i [] = l := by
      have : i = ls.length := by have := h.1; omega
      subst this
      simp [List.getD_eq_getElem?_getD]
    rw [e]
    exact ⟨hn, hp.mono fun e he => by simp [he]⟩
theorem Rows.mono {ds : List Sd} {ls : List (List Nat)} {G G' : List Ent} (h : Rows ds ls G) (hs : ∀ e ∈ G, e ∈ G') : Rows ds ls G' := ⟨h.1, fun i d hd => ⟨(h.2 i d hd).1, (h.2 i d hd).2.mono hs⟩⟩
theorem PortL.of {A : Option Addr} {n c : Nat} {ds : List Sd} {ls : List (List Nat)} {E : TypeId} {Gt Gs G : List Ent} (hg : GrowV es E (.slice A n c) ds Gt) (hr : Rows ds ls Gs) (h1 : ∀ e ∈ Gt, e ∈ G) (h2 : ∀ e ∈ Gs, e ∈ G) : PortL A ls G :=
  fun w0 w W N hw hm => ⟨ds, hg.read hw fun e he => hm e (h1 e he), hr.1, fun i d hd => ⟨(hr.2 i d hd).1, (hr.2 i d hd).2 w0 w W N hw fun e he => hm e (h2 e he)⟩⟩
theorem PortL.mono {A : Option Addr} {ls : List (List Nat)} {G G' : List Ent} (h : PortL A ls G) (hs : ∀ e ∈ G, e ∈ G') : PortL A ls G' := fun w0 w W N hw hm => h w0 w W N hw fun e he => hm e (hs e he)
theorem port_grow {A : Option Addr} {n c : Nat} {l : List Nat} {E : TypeId} {G : List Ent} (h : GrowV e16 E (.slice A n c) l G) : Port A l G := fun _ _ _ _ hw hm => h.read hw hm

/-- All four quarters of c. -/
def qs (c : Nat) (n : Nat) : List (List Nat) := (List.range n).map (qr c)
theorem qs_length (c n : Nat) : (qs c n).length = n := by simp [qs]
theorem qs_get {c n i : Nat} (h : i < n) : (qs c n).getD i [] = qr c i := by simp [qs, h]
theorem qs_succ (c n : Nat) : qs c (n + 1) = qs c n ++ [qr c n] := by simp [qs, List.range_succ]

theorem info_ws : (Try.prog.info? 36).map (fun i => (i.zero, i.size, i.bytes)) = some (some (.slice none 0 0), 1, 24) := by kernel_rfl

/-- What Quarters answers. -/
def QuR (w : World) (c : Nat) (e : Ending) (w' : World) : Prop := ∃ A cp N, e = .returned (.slice A (4 : Nat) cp) ∧ PortL A (qs c 4) N ∧ St w w' [] N

theorem set_snoc (ds : List Sd) (n : Nat) (d : Sd) (h : ds.length = n) (hn : n < 4) : (ds ++ List.replicate (4 - n) (⟨none, 0, 0⟩ : Sd)).set n d = (ds ++ [d]) ++ List.replicate (4 - (n + 1)) (⟨none, 0, 0⟩ : Sd) := by
  subst h
  rw [List.set_append_right _ _ (Nat.le_refl _), Nat.sub_self]
  rw [show 4 - ds.length = (4 - (ds.length + 1)) + 1 by omega, List.replicate_succ, List.set_cons_zero, List.append_assoc]
  rfl

set_option maxRecDepth 100000 in
set_option maxHeartbeats 4000000 in
theorem quarters_st (c : Nat) (w : World) (hc : c < 65536) : Calls Try.prog 18 #[.int .u16 (c : Int)] w (QuR w c) := by
  have S0 := Lib.hid (St.start w)
  go_enter Try.func18, Try.ntmps18
  go_wp2_with fail
  refine (of_calls c _ hc).mono ?_
  rintro e w1 ⟨qb, rfl, hh⟩
  have h1 := S0.out.call hh; clear hh S0
  try simp only [List.nil_append, List.cons_append, List.append_eq, Int.toNat_natCast] at h1
  have S1 := Lib.hid h1; clear h1
  go_wp2_with ((with_reducible refine at_slot (N := 8) rfl ?_); refine make_v (enc := es) rfl _ _ _ .i64 .i64 4 4 24 ⟨none, 0, 0⟩ rfl rfl rfl Try.underlying34 info_ws rfl (Nat.le_refl _) (by omega) (by omega) S1.out ?_; intro b w2 h2; (try simp only [World.size_alloc, List.nil_append, List.cons_append, List.append_eq] at h2); have S2 := Lib.hid h2; clear h2 S1)
  go_loopw [9] (fun vi wr => ∃ (n : Nat) (ds : List Sd) (Gs : List Ent), n ≤ 4 ∧ vi = .int .i64 n ∧ ds.length = n ∧ Rows ds (qs c n) Gs ∧ St w wr [] (Gs ++ [⟨b, 36, cellsV es (ds ++ List.replicate (4 - n) ⟨none, 0, 0⟩)⟩, ⟨qb, 66, row .u16 (qL c)⟩])) (fun vi _ => 4 - (intOf vi).toNat)
  case atStart => exact ⟨0, [], [], by omega, rfl, rfl, Rows.nil, S2.out⟩
  case round =>
    clear S2
    obtain ⟨n, ds, Gs, hn, rfl, hdl, hrows, hs⟩ := hrel
    have S2 := Lib.hid hs; have HRW := Lib.hid hrows; have HDL := Lib.hid hdl; clear hs hrows hdl
    by_cases hlt : n < 4
    · have HP : Hid (RdV e16 wr (some ⟨qb, n * 16, none⟩) (qr c n)) := Lib.hid (by
        have := (S2.out.rdV (enc := e16) (l := qL c) (b := qb) (t := 66) (by simp [row, cellsV])).piece (n * 16) 16
        rw [qL_piece hlt, Nat.zero_add] at this
        exact this)
      have i1 : (n : Int) < 4 := by omega
      have hb1 : (⟨b, 36, cellsV es (ds ++ List.replicate (4 - n) ⟨none, 0, 0⟩)⟩ : Ent) ∈ Gs ++ [⟨b, 36, cellsV es (ds ++ List.replicate (4 - n) ⟨none, 0, 0⟩)⟩, ⟨qb, 66, row .u16 (qL c)⟩] := by simp
      have HCC : Hid (∀ w' N', St w w' [] (N' ++ (Gs ++ [⟨b, 36, cellsV es (ds ++ List.replicate (4 - n) ⟨none, 0, 0⟩)⟩, ⟨qb, 66, row .u16 (qL c)⟩])) → w'.cell? ⟨b, n, none⟩ = some (.slice none 0 0)) := Lib.hid (fun w' N' hs => by
        refine (hs.blk (List.mem_append_right _ hb1)).cell (v := es ⟨none, 0, 0⟩) (cellsV_get (enc := es) ?_)
        rw [List.getElem?_append_right (by rw [HDL.out]; exact Nat.le_refl _), HDL.out, Nat.sub_self]
        rw [show 4 - n = (4 - (n + 1)) + 1 by omega]; rfl)
      go_wp2_with ((with_reducible refine at_slot (N := 19) rfl ?_); refine append_v (enc := e16) (G := []) rfl _ _ _ rfl 0 2 Try.underlying36 info_u16 rfl (fun _ => rfl) _ [] rfl S2.out GrowV.nil (some ⟨qb, n * 16, none⟩) 16 16 (qr c n) rfl (qr_length c n) HP.out (by rw [qr_length]; decide) (by rw [qr_length]; decide) ?_; intro v1 w3 G1 h3 hg' hz; rw [List.nil_append] at hg'; obtain ⟨A1, c1, rfl⟩ := hg'.shape; rw [qr_length] at hg' ⊢; have HG1 := Lib.hid hg'; clear hg' hz; have m1 := HCC.out _ _ h3; have f1 := (St.blk h3 (List.mem_append_right _ hb1)).free (i := n); (try simp only [World.size_alloc, List.nil_append, List.cons_append, List.append_eq] at h3); have S3 := Lib.hid h3; clear h3 S2)
      have S5 := St.setV (enc := es) (N1 := G1 ++ Gs) (b := b) (t := 36) (l := ds ++ List.replicate (4 - n) ⟨none, 0, 0⟩) (N2 := [⟨qb, 66, row .u16 (qL c)⟩]) n ⟨A1, 16, c1⟩ (by rw [List.append_assoc]; exact S3.out)
      rw [set_snoc ds n _ HDL.out hlt] at S5
      refine ⟨⟨n + 1, ds ++ [⟨A1, 16, c1⟩], G1 ++ Gs, by omega, by simp, by simp [HDL.out], ?_, S5⟩, ?_⟩
      · rw [qs_succ]; exact HRW.out.snoc (d := ⟨A1, 16, c1⟩) (qr_length c n).symm (port_grow HG1.out)
      · simp [intOf]; omega
    · obtain rfl : n = 4 := by omega
      go_wp2_with fail
      go_ret
      refine ⟨_, _, _, rfl, ?_, S2.out⟩
      have hg : GrowV es 36 (.slice (some ⟨b, 0, none⟩) 4 4) ds [⟨b, 36, cellsV es (ds ++ List.replicate (4 - 4) ⟨none, 0, 0⟩)⟩] := GrowV.of_blk (by simp [HDL.out]) (by simp [HDL.out]) (by decide) (by rw [List.take_append_of_le_length (by rw [HDL.out]; exact Nat.le_refl _), List.take_of_length_le (by rw [HDL.out]; exact Nat.le_refl _)]) HDL.out
      exact PortL.of hg HRW.out (fun e he => by rw [List.mem_singleton] at he; subst he; simp) (fun e he => by simp [he])

/-- Two lists of lists that read alike. -/
theorem rows_st {A1 A2 : Option Addr} {m c1 c2 : Nat} {ls : List (List Nat)} {w : World} (hm : ls.length = m) (hl : m ≤ 281474976710656) (hls : ∀ i, (ls.getD i []).length ≤ 281474976710656) (h1 : RdQ w A1 ls) (h2 : RdQ w A2 ls) :
    Calls Try.prog 28 #[.slice A1 m c1, .slice A2 m c2] w fun e w' => e = .returned (.bool true) ∧ St w w' [] [] := by
  obtain ⟨d1, r1, n1, k1⟩ := h1
  obtain ⟨d2, r2, n2, k2⟩ := h2
  have R1 := Lib.hid r1; have R2 := Lib.hid r2; have K1 := Lib.hid k1; have K2 := Lib.hid k2; have HM := Lib.hid hm; have HLS := Lib.hid hls
  have N1 := Lib.hid n1; have N2 := Lib.hid n2
  clear r1 r2 k1 k2 hm n1 n2 hls
  have S0 := Lib.hid (St.start w)
  go_enter Try.func28, Try.ntmps28
  go_wp2
  go_loopw [5] (fun vi wr => ∃ i : Nat, i ≤ m ∧ vi = .int .i64 i ∧ St w wr [] []) (fun vi _ => m - (intOf vi).toNat)
  case atStart => exact ⟨0, by omega, rfl, S0.out⟩
  case round =>
    clear S0
    obtain ⟨i, hi, rfl, hs⟩ := hrel
    have S1 := Lib.hid hs; clear hs
    by_cases hlt : i < m
    · obtain ⟨x1, hx1⟩ : ∃ x, d1[i]? = some x := ⟨d1[i]'(by rw [N1.out, HM.out]; exact hlt), by simp⟩
      obtain ⟨x2, hx2⟩ : ∃ x, d2[i]? = some x := ⟨d2[i]'(by rw [N2.out, HM.out]; exact hlt), by simp⟩
      obtain ⟨b1, o1, e1, k1⟩ := (S1.out.extV R1.out) (by rw [N1.out, HM.out]; omega)
      obtain ⟨b2, o2, e2, k2⟩ := (S1.out.extV R2.out) (by rw [N2.out, HM.out]; omega)
      subst e1 e2
      have m1 := k1 i x1 hx1
      have m2 := k2 i x2 hx2
      obtain ⟨l1, q1⟩ := K1.out i x1 hx1
      obtain ⟨l2, q2⟩ := K2.out i x2 hx2
      obtain ⟨B1, y1, z1⟩ := x1
      obtain ⟨B2, y2, z2⟩ := x2
      simp only at l1 l2
      subst l1 l2
      obtain ⟨l, HL⟩ : ∃ l, Hid (ls.getD i [] = l) := ⟨_, Lib.hid rfl⟩
      have hll := HLS.out i
      rw [HL.out] at m1 m2 q1 q2 hll
      obtain ⟨y, HY⟩ : ∃ y, Hid (l.length = y) := ⟨_, Lib.hid rfl⟩
      simp only [es] at m1 m2
      rw [HY.out] at m1 m2 hll
      have Q1 := Lib.hid q1; have Q2 := Lib.hid q2
      clear k1 k2 q1 q2
      have HCC : Hid (∀ w' : World, St w w' [] [] → w'.cell? ⟨b1, o1 + i, none⟩ = some (.slice B1 y z1) ∧ w'.cell? ⟨b2, o2 + i, none⟩ = some (.slice B2 y z2)) := Lib.hid (fun w' hb => by
        obtain ⟨_, _, e, c1⟩ := (hb.extV R1.out) (by rw [N1.out, HM.out]; omega)
        injection e with e; injection e with e1 e2 _; subst e1 e2
        obtain ⟨_, _, e, c2⟩ := (hb.extV R2.out) (by rw [N2.out, HM.out]; omega)
        injection e with e; injection e with e1 e2 _; subst e1 e2
        have := c1 i _ hx1; have := c2 i _ hx2
        rw [← HY.out, ← HL.out]
        exact ⟨c1 i _ hx1, c2 i _ hx2⟩)
      clear hx1 hx2
      go_wp2_with fail
      have S2 := Lib.hid S1.out.drew; clear S1
      go_region_held3 (fun w' => w'.cell? ⟨b1, o1 + i, none⟩ = some (.slice B1 y z1) ∧ w'.cell? ⟨b2, o2 + i, none⟩ = some (.slice B2 y z2)) (first | go_keep | exact HCC.out _ S3.out) (first
        | (go_at_call 26; refine (alike_st HY.out hll (RdV.below Q1.out (St.nil S2.out).below) (RdV.below Q2.out (St.nil S2.out).below)).mono ?_; rintro e w3 ⟨rfl, hh⟩; have h3 := S2.out.call hh; clear hh S2; (try simp only [List.nil_append, List.cons_append, List.append_eq, Int.toNat_natCast] at h3); have S3 := Lib.hid h3; clear h3))
      go_wp2_with fail
      refine ⟨⟨i + 1, by omega, by simp, S3.out⟩, ?_⟩
      simp [intOf]; omega
    · go_wp2_with fail
      go_ret
      exact ⟨rfl, S1.out⟩

end Go.Proofs.Ytadgjmlkpnifoaa.Pq
