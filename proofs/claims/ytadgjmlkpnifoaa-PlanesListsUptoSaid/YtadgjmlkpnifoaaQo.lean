/- Layer 8: Quarters, whose lists are the call's own; the law's 'outer'. -/
import Derived.Test.YtadgjmlkpnifoaaQs
import Derived.Test.YtadgjmlkpnifoaaAp
import Derived.Deep.RegionHeld3
namespace Go.Proofs.Ytadgjmlkpnifoaa.Pq
set_option linter.unusedSimpArgs false
set_option linter.unusedVariables false
open Go Go.RowKit Go.Proofs.Ytadgjmlkpnifoaa Go.Proofs.Ytadgjmlkpnifoaa.Mm Go.Proofs.Ytadgjmlkpnifoaa.Gh Go.Proofs.Ytadgjmlkpnifoaa.Wr Go.Proofs.Ytadgjmlkpnifoaa.St

/-- What Quarters answers: all its lists its own. -/
def QuO (w : World) (c : Nat) (e : Ending) (w' : World) : Prop := ∃ (b : Nat) (ds : List Sd) (Gs : List (List Ent)), e = .returned (.slice (some ⟨b, 0, none⟩) 4 4) ∧ ds.length = 4 ∧ Fam 4 (Own e16 23 ds (fun k l => l = qr c k)) Gs ∧ St w w' [] (Gs.flatten ++ [⟨b, 36, cellsV es ds⟩])

set_option maxRecDepth 100000 in
set_option maxHeartbeats 4000000 in
theorem quarters_own (c : Nat) (w : World) (hc : c < 65536) : Calls Try.prog 18 #[.int .u16 (c : Int)] w (QuO w c) := by
  have S0 := Lib.hid (St.start w)
  go_enter Try.func18, Try.ntmps18
  go_wp2_with fail
  refine (of_calls c _ hc).mono ?_
  rintro e w1 ⟨qb, rfl, hh⟩
  have h1 := S0.out.call hh; clear hh S0
  try simp only [List.nil_append, List.cons_append, List.append_eq, Int.toNat_natCast] at h1
  have S1 := Lib.hid h1; clear h1
  go_wp2_with ((with_reducible refine at_slot (N := 8) rfl ?_); refine make_v (enc := es) rfl _ _ _ .i64 .i64 4 4 24 ⟨none, 0, 0⟩ rfl rfl rfl Try.underlying34 info_ws rfl (Nat.le_refl _) (by omega) (by omega) S1.out ?_; intro b w2 h2; (try simp only [World.size_alloc, List.nil_append, List.cons_append, List.append_eq] at h2); have S2 := Lib.hid h2; clear h2 S1)
  go_loopw [9] (fun vi wr => ∃ (n : Nat) (ds : List Sd) (Gs : List (List Ent)), n ≤ 4 ∧ vi = .int .i64 n ∧ ds.length = n ∧ Fam n (Own e16 23 ds (fun k l => l = qr c k)) Gs ∧ St w wr [] (Gs.flatten ++ [⟨b, 36, cellsV es (ds ++ List.replicate (4 - n) ⟨none, 0, 0⟩)⟩, ⟨qb, 66, row .u16 (qL c)⟩])) (fun vi _ => 4 - (intOf vi).toNat)
  case atStart => exact ⟨0, [], [], by omega, rfl, rfl, Fam.nil _, S2.out⟩
  case round =>
    clear S2
    obtain ⟨n, ds, Gs, hn, rfl, hdl, hrows, hs⟩ := hrel
    have S2 := Lib.hid hs; have HRW := Lib.hid hrows; have HDL := Lib.hid hdl; clear hs hrows hdl
    by_cases hlt : n < 4
    · have HP : Hid (RdV e16 wr (some ⟨qb, n * 16, none⟩) (qr c n)) := Lib.hid (by
        have := (S2.out.rdV (enc := e16) (l := qL c) (b := qb) (t := 66) (by simp [row, cellsV])).piece (n * 16) 16
        rw [qL_piece hlt, Nat.zero_add] at this
        exact this)
      have i1 : (n : Int) < 4 := by omega
      have hb1 : (⟨b, 36, cellsV es (ds ++ List.replicate (4 - n) ⟨none, 0, 0⟩)⟩ : Ent) ∈ Gs.flatten ++ [⟨b, 36, cellsV es (ds ++ List.replicate (4 - n) ⟨none, 0, 0⟩)⟩, ⟨qb, 66, row .u16 (qL c)⟩] := by simp
      have HCC : Hid (∀ w' N', St w w' [] (N' ++ (Gs.flatten ++ [⟨b, 36, cellsV es (ds ++ List.replicate (4 - n) ⟨none, 0, 0⟩)⟩, ⟨qb, 66, row .u16 (qL c)⟩])) → w'.cell? ⟨b, n, none⟩ = some (.slice none 0 0)) := Lib.hid (fun w' N' hs => by
        refine (hs.blk (List.mem_append_right _ hb1)).cell (v := es ⟨none, 0, 0⟩) (cellsV_get (enc := es) ?_)
        rw [List.getElem?_append_right (by rw [HDL.out]; exact Nat.le_refl _), HDL.out, Nat.sub_self]
        rw [show 4 - n = (4 - (n + 1)) + 1 by omega]; rfl)
      go_wp2_with ((with_reducible refine at_slot (N := 19) rfl ?_); refine append_v (enc := e16) (G := []) rfl _ _ _ rfl 0 2 Try.underlying36 info_u16 rfl (fun _ => rfl) _ [] rfl S2.out GrowV.nil (some ⟨qb, n * 16, none⟩) 16 16 (qr c n) rfl (qr_length c n) HP.out (by rw [qr_length]; decide) (by rw [qr_length]; decide) ?_; intro v1 w3 G1 h3 hg' hz; rw [List.nil_append] at hg'; obtain ⟨A1, c1, rfl⟩ := hg'.shape; rw [qr_length] at hg' ⊢; have HG1 := Lib.hid hg'; clear hg' hz; have m1 := HCC.out _ _ h3; have f1 := (St.blk h3 (List.mem_append_right _ hb1)).free (i := n); (try simp only [World.size_alloc, List.nil_append, List.cons_append, List.append_eq] at h3); have S3 := Lib.hid h3; clear h3 S2)
      have S5 := St.setV (enc := es) (N1 := G1 ++ Gs.flatten) (b := b) (t := 36) (l := ds ++ List.replicate (4 - n) ⟨none, 0, 0⟩) (N2 := [⟨qb, 66, row .u16 (qL c)⟩]) n ⟨A1, 16, c1⟩ (by rw [List.append_assoc]; exact S3.out)
      rw [set_snoc ds n _ HDL.out hlt] at S5
      have hdl := HDL.out
      refine ⟨⟨n + 1, ds ++ [⟨A1, 16, c1⟩], Gs ++ [G1], by omega, by simp, by simp [hdl], ?_, S5.perm (by classical exact List.perm_iff_count.2 fun a => by simp only [List.flatten_append, List.flatten_cons, List.flatten_nil, List.append_nil, List.count_append]; omega)⟩, ?_⟩
      · refine Fam.snoc (HRW.out.imp fun k G hk ⟨d, l, h1, h2, h3⟩ => ⟨d, l, by rw [List.getElem?_append_left (by omega)]; exact h1, h2, h3⟩) ⟨⟨A1, 16, c1⟩, qr c n, ?_, rfl, by simpa [es, qr_length] using HG1.out⟩
        rw [List.getElem?_append_right (by omega), hdl, Nat.sub_self]; rfl
      · simp [intOf]; omega
    · obtain rfl : n = 4 := by omega
      go_wp2_with fail
      go_ret
      have h4 : ds ++ List.replicate (4 - 4) (⟨none, 0, 0⟩ : Sd) = ds := by simp
      have hs := S2.out
      rw [h4] at hs
      exact ⟨b, ds, Gs, rfl, HDL.out, HRW.out, hs.drop (List.Sublist.append (List.Sublist.refl _) (.cons_cons _ (.cons _ (List.Sublist.refl _))))⟩

section
variable {P : Program} {w0 w : World} {W N : List Ent} {ops : Array Oper} {rest : List Oper} {o : Oper} {a : Act} {Q : Exit → Act → World → Prop}
theorem bslice_law8 (hgd : o.guard = none) (t e : TypeId) (n : Nat) (parts : Array (Nat × Operand)) (c : Array Value) (ho : o.op = .buildSlice t n parts)
    (h : ∀ w : World, (Instr.buildSlice t n (parts.map fun (i, x) => (i, a.eval x))).run P w = .ok (.slice (some ⟨w.heap.size, 0, none⟩) n n) (w.alloc (.cells c e (0, 0)))) (hs : St w0 w W N)
    (hK : ∀ b w', St w0 w' W (⟨b, e, c⟩ :: N) → wpList P ops Q rest (a.put o.dst (.slice (some ⟨b, 0, none⟩) n n)) w') : wpList P ops Q (o :: rest) a w :=
  ev hgd (bslice_run t e n parts c ho h) (hK _ _ (hs.alloc e c))
end

theorem info_w16 : (Try.prog.info? 36).map (fun i => (i.zero, i.size, i.bytes)) = some (some (es ⟨none, 0, 0⟩), 1, 24) := by kernel_rfl
/-- All lists have m elements. -/
def Len (ds : List Sd) (m : Nat) : Prop := ∀ (k : Nat) (d : Sd), ds[k]? = some d → d.n = m
/-- .. those ahead of i. -/
def LenTo (ds : List Sd) (i m : Nat) : Prop := ∀ (k : Nat) (d : Sd), k < i → ds[k]? = some d → d.n = m
theorem LenTo.set {ds : List Sd} {i m : Nat} {d : Sd} (h : LenTo ds i m) (hi : i < ds.length) (hd : d.n = m) : LenTo (ds.set i d) (i + 1) m := by
  intro k d' hk hg
  by_cases e : i = k
  · subst e; rw [List.getElem?_set_self hi] at hg; injection hg with hg; subst hg; exact hd
  · rw [List.getElem?_set_ne e] at hg; exact h k d' (by omega) hg
theorem Len.snoc {ds : List Sd} {m : Nat} {d : Sd} (h : Len ds m) (hd : d.n = m) : Len (ds ++ [d]) m := by
  intro k d' hg
  by_cases hk : k < ds.length
  · rw [List.getElem?_append_left hk] at hg; exact h k d' hg
  · rw [List.getElem?_append_right (by omega)] at hg
    rcases Nat.eq_zero_or_pos (k - ds.length) with h0 | h0
    · rw [h0] at hg; simp at hg; subst hg; exact hd
    · rw [List.getElem?_eq_none (by simp; omega)] at hg; cases hg

set_option maxRecDepth 100000 in
set_option maxHeartbeats 4000000 in
theorem outer_st {a b : Nat} {da db : List Sd} {w0 w : World} {W N : List Ent} (hda : da.length = 4) (hdb : db.length = 4) (hs : St w0 w W ([⟨a, 36, cellsV es da⟩] ++ ([⟨b, 36, cellsV es db⟩] ++ N))) :
    Calls Try.prog 31 #[.slice (some ⟨a, 0, none⟩) 4 4, .slice (some ⟨b, 0, none⟩) 4 4] w fun e w' => e = .returned (.bool true) ∧ St w0 w' W N := by
  have S0 := Lib.hid hs
  clear hs
  go_enter Try.func31, Try.ntmps31
  go_wp2_with (first
    | ((with_reducible refine at_slot (N := 15) rfl ?_); refine bslice_law8 rfl _ 23 1 _ (row .u16 [1]) rfl (fun _ => by kernel_rfl) S0.out ?_; intro mb w1 h1; (try simp only [World.size_alloc, List.nil_append, List.cons_append, List.append_eq] at h1); have S1 := Lib.hid h1; clear h1 S0)
    | ((with_reducible refine at_slot (N := 16) rfl ?_); refine bslice_law8 rfl _ 23 2 _ (row .u16 [1, 2]) rfl (fun _ => by kernel_rfl) S1.out ?_; intro nb w2 h2; (try simp only [World.size_alloc, List.nil_append, List.cons_append, List.append_eq] at h2); have S2 := Lib.hid h2; clear h2 S1))
  have S3 : Hid (St w0 w2 W ([⟨a, 36, cellsV es da⟩] ++ ([⟨b, 36, cellsV es db⟩] ++ N))) := Lib.hid (S2.out.drop (.cons _ (.cons _ (List.Sublist.refl _))))
  clear S2
  go_loopw [7] (fun vi wr => ∃ (i : Nat) (da : List Sd), i ≤ 4 ∧ vi = .int .i64 i ∧ da.length = 4 ∧ LenTo da i 1 ∧ St w0 wr W ([⟨a, 36, cellsV es da⟩] ++ ([⟨b, 36, cellsV es db⟩] ++ N))) (fun vi _ => 4 - (intOf vi).toNat)
  case atStart => exact ⟨0, da, by omega, rfl, hda, fun k d hk => by omega, S3.out⟩
  case round =>
    clear S3
    obtain ⟨i, da, hi, rfl, hdl, hln, hs⟩ := hrel
    have S4 := Lib.hid hs; have HDA := Lib.hid hdl; have HLA := Lib.hid hln
    clear hs hdl hln
    by_cases hlt : i < 4
    · obtain ⟨⟨X, y, z⟩, hx⟩ := get_ds HDA.out hlt
      have hb := S4.out.blk (b := a) (t := 36) (c := cellsV es da) (by simp)
      have m1 := hb.cell (cellsV_get (enc := es) hx)
      have f1 := hb.free (i := i)
      simp only [es] at m1
      have HS := Lib.hid (S4.out.setV (enc := es) (N1 := []) i ⟨some ⟨mb, 0, none⟩, 1, 1⟩)
      have i1 : (i : Int) < 4 := by omega
      clear hb hx
      go_wp2_with fail
      clear m1 f1
      refine ⟨⟨i + 1, da.set i ⟨some ⟨mb, 0, none⟩, 1, 1⟩, by omega, by simp, by rw [List.length_set]; exact HDA.out, HLA.out.set (by rw [HDA.out]; exact hlt) rfl, HS.out⟩, ?_⟩
      simp [intOf]; omega
    · obtain rfl : i = 4 := by omega
      have HLA4 : Hid (Len da 1) := Lib.hid (fun k d hk => HLA.out k d (by
        have : k < da.length := (List.getElem?_eq_some_iff.1 hk).1
        rw [HDA.out] at this; exact this) hk)
      clear HLA hlt hi
      go_wp2_with fail
      go_loopw [8] (fun vi wr => ∃ (i : Nat) (db : List Sd), i ≤ 4 ∧ vi = .int .i64 i ∧ db.length = 4 ∧ LenTo db i 2 ∧ St w0 wr W ([⟨a, 36, cellsV es da⟩] ++ ([⟨b, 36, cellsV es db⟩] ++ N))) (fun vi _ => 4 - (intOf vi).toNat)
      case atStart => exact ⟨0, db, by omega, rfl, hdb, fun k d hk => by omega, S4.out⟩
      case round =>
        clear S4
        obtain ⟨i, db, hi, rfl, hdl, hln, hs⟩ := hrel
        have S5 := Lib.hid hs; have HDB := Lib.hid hdl; have HLB := Lib.hid hln
        clear hs hdl hln
        by_cases hlt : i < 4
        · obtain ⟨⟨X, y, z⟩, hx⟩ := get_ds HDB.out hlt
          have hb := S5.out.blk (b := b) (t := 36) (c := cellsV es db) (by simp)
          have m1 := hb.cell (cellsV_get (enc := es) hx)
          have f1 := hb.free (i := i)
          simp only [es] at m1
          have HS := Lib.hid (S5.out.setV (enc := es) (N1 := [_]) i ⟨some ⟨nb, 0, none⟩, 2, 2⟩)
          have i1 : (i : Int) < 4 := by omega
          clear hb hx
          go_wp2_with fail
          clear m1 f1
          refine ⟨⟨i + 1, db.set i ⟨some ⟨nb, 0, none⟩, 2, 2⟩, by omega, by simp, by rw [List.length_set]; exact HDB.out, HLB.out.set (by rw [HDB.out]; exact hlt) rfl, HS.out⟩, ?_⟩
          simp [intOf]; omega
        · obtain rfl : i = 4 := by omega
          have HLB4 : Hid (Len db 2) := Lib.hid (fun k d hk => HLB.out k d (by
            have : k < db.length := (List.getElem?_eq_some_iff.1 hk).1
            rw [HDB.out] at this; exact this) hk)
          clear HLB hlt hi
          have GA : Hid (GrowV es 36 (.slice (some ⟨a, 0, none⟩) 4 4) da [⟨a, 36, cellsV es da⟩]) := Lib.hid (GrowV.of_blk (by rw [HDA.out]; exact Nat.le_refl _) HDA.out (by decide) (List.take_of_length_le (by rw [HDA.out]; exact Nat.le_refl _)) HDA.out)
          have GB : Hid (GrowV es 36 (.slice (some ⟨b, 0, none⟩) 4 4) db [⟨b, 36, cellsV es db⟩]) := Lib.hid (GrowV.of_blk (by rw [HDB.out]; exact Nat.le_refl _) HDB.out (by decide) (List.take_of_length_le (by rw [HDB.out]; exact Nat.le_refl _)) HDB.out)
          go_wp2_with fail
          go_loopw [9, 11] (fun v vi wr => ∃ (i : Nat) (G : List Ent) (da : List Sd), i ≤ 20 ∧ vi = .int .i64 i ∧ da.length = 4 + i ∧ Len da 1 ∧ GrowV es 36 v da G ∧ St w0 wr W (G ++ ([⟨b, 36, cellsV es db⟩] ++ N))) (fun _ vi _ => 20 - (intOf vi).toNat)
          case atStart => exact ⟨0, _, da, by omega, rfl, HDA.out, HLA4.out, GA.out, S5.out⟩
          case round =>
            clear S5 GA HLA4 HDA
            obtain ⟨i, G, da, hi, rfl, hdl, hln, hg, hs⟩ := hrel
            have S6 := Lib.hid hs; have HDA := Lib.hid hdl; have HLA := Lib.hid hln; have HG := Lib.hid hg
            clear hs hdl hln hg
            by_cases hlt : i < 20
            · have i1 : (i : Int) < 20 := by omega
              go_wp2_with ((with_reducible refine at_slot (N := 46) rfl ?_); refine append_v (enc := es) (N := [⟨b, 36, cellsV es db⟩] ++ N) (G := G) rfl _ _ _ rfl ⟨none, 0, 0⟩ 24 Try.underlying34 info_w16 rfl (fun _ => rfl) _ _ rfl (S6.out.skip (t := 36) (c := cellsV es [⟨some ⟨mb, 0, none⟩, 1, 1⟩])) HG.out (some ⟨wr.heap.size, 0, none⟩) 1 1 [⟨some ⟨mb, 0, none⟩, 1, 1⟩] rfl rfl (RdV.of_blk (Blk.new wr _ _)) (by rw [HDA.out]; show (4 + i + 1) * 24 ≤ _; omega) (by rw [HDA.out]; show 4 + i + 1 ≤ _; unfold maxLen; omega) ?_; intro v' w7 G' h7 hg' hz; have HG' := Lib.hid hg'; clear hg' hz HG; (try simp only [World.size_alloc, List.nil_append, List.cons_append, List.append_eq] at h7); have S7 := Lib.hid h7; clear h7 S6)
              have hdl := HDA.out
              refine ⟨?_, ?_⟩
              · repeat apply Exists.intro
                refine ⟨?_, rfl⟩
                exact ⟨i + 1, G', da ++ [⟨some ⟨mb, 0, none⟩, 1, 1⟩], by omega, by go_num, by simp [hdl]; omega, HLA.out.snoc rfl, HG'.out, S7.out⟩
              · simp [intOf]; omega
            · obtain rfl : i = 20 := by omega
              obtain ⟨A1, c1, rfl⟩ := HG.out.shape
              rw [HDA.out] at HG ⊢
              clear hlt hi
              go_wp2_with fail
              go_loopw [10, 12] (fun v vi wr => ∃ (i : Nat) (G2 : List Ent) (db : List Sd), i ≤ 20 ∧ vi = .int .i64 i ∧ db.length = 4 + i ∧ Len db 2 ∧ GrowV es 36 v db G2 ∧ St w0 wr W (G2 ++ (G ++ N))) (fun _ vi _ => 20 - (intOf vi).toNat)
              case atStart => exact ⟨0, _, db, by omega, rfl, HDB.out, HLB4.out, GB.out, S6.out.perm (front_perm _ _ _)⟩
              case round =>
                clear S6 GB HLB4 HDB
                obtain ⟨i, G2, db, hi, rfl, hdl, hln, hg, hs⟩ := hrel
                have S7 := Lib.hid hs; have HDB := Lib.hid hdl; have HLB := Lib.hid hln; have HG2 := Lib.hid hg
                clear hs hdl hln hg
                by_cases hlt : i < 20
                · have i1 : (i : Int) < 20 := by omega
                  go_wp2_with ((with_reducible refine at_slot (N := 54) rfl ?_); refine append_v (enc := es) (N := G ++ N) (G := G2) rfl _ _ _ rfl ⟨none, 0, 0⟩ 24 Try.underlying34 info_w16 rfl (fun _ => rfl) _ _ rfl (S7.out.skip (t := 36) (c := cellsV es [⟨some ⟨nb, 0, none⟩, 2, 2⟩])) HG2.out (some ⟨wr.heap.size, 0, none⟩) 1 1 [⟨some ⟨nb, 0, none⟩, 2, 2⟩] rfl rfl (RdV.of_blk (Blk.new wr _ _)) (by rw [HDB.out]; show (4 + i + 1) * 24 ≤ _; omega) (by rw [HDB.out]; show 4 + i + 1 ≤ _; unfold maxLen; omega) ?_; intro v' w8 G' h8 hg' hz; have HG' := Lib.hid hg'; clear hg' hz HG2; (try simp only [World.size_alloc, List.nil_append, List.cons_append, List.append_eq] at h8); have S8 := Lib.hid h8; clear h8 S7)
                  have hdl := HDB.out
                  refine ⟨?_, ?_⟩
                  · repeat apply Exists.intro
                    refine ⟨?_, rfl⟩
                    exact ⟨i + 1, G', db ++ [⟨some ⟨nb, 0, none⟩, 2, 2⟩], by omega, by go_num, by simp [hdl]; omega, HLB.out.snoc rfl, HG'.out, S8.out⟩
                  · simp [intOf]; omega
                · obtain rfl : i = 20 := by omega
                  obtain ⟨A2, c2, rfl⟩ := HG2.out.shape
                  rw [HDB.out] at HG2 ⊢
                  clear hlt hi
                  have RA : Hid (∀ wr : World, St w0 wr W (G2 ++ (G ++ N)) → ∀ k d, da[k]? = some d → ∃ bb oo, A1 = some ⟨bb, oo, none⟩ ∧ wr.cell? ⟨bb, oo + k, none⟩ = some (es d)) := Lib.hid (fun wr hs k d hd => by
                    obtain ⟨bb, oo, e, kk⟩ := HG.out.read hs (fun e he => by simp [he]) (by rw [HDA.out]; decide)
                    exact ⟨bb, oo, e, kk k d hd⟩)
                  have RB : Hid (∀ wr : World, St w0 wr W (G2 ++ (G ++ N)) → ∀ k d, db[k]? = some d → ∃ bb oo, A2 = some ⟨bb, oo, none⟩ ∧ wr.cell? ⟨bb, oo + k, none⟩ = some (es d)) := Lib.hid (fun wr hs k d hd => by
                    obtain ⟨bb, oo, e, kk⟩ := HG2.out.read hs (fun e he => by simp [he]) (by rw [HDB.out]; decide)
                    exact ⟨bb, oo, e, kk k d hd⟩)
                  go_wp2_with fail
                  go_loopw [13] (fun vi wr => ∃ i : Nat, i ≤ 24 ∧ vi = .int .i64 i ∧ St w0 wr W (G2 ++ (G ++ N))) (fun vi _ => 24 - (intOf vi).toNat)
                  case atStart => exact ⟨0, by omega, rfl, S7.out⟩
                  case round =>
                    clear S7
                    obtain ⟨i, hi, rfl, hs⟩ := hrel
                    have S8 := Lib.hid hs; clear hs
                    by_cases hlt : i < 24
                    · obtain ⟨⟨X, y, z⟩, hx⟩ := get_ds HDA.out (show i < 4 + 20 from hlt)
                      obtain ⟨bb, oo, eA, m1⟩ := RA.out _ S8.out i _ hx
                      have hy : y = 1 := HLA.out i _ hx
                      subst eA hy
                      simp only [es] at m1
                      have i1 : (i : Int) < 24 := by omega
                      clear hx
                      go_wp2_with fail
                      clear m1
                      refine ⟨⟨i + 1, by omega, by simp, S8.out⟩, ?_⟩
                      simp [intOf]; omega
                    · obtain rfl : i = 24 := by omega
                      clear hlt hi RA
                      go_wp2_with fail
                      go_loopw [14] (fun vi wr => ∃ i : Nat, i ≤ 24 ∧ vi = .int .i64 i ∧ St w0 wr W (G2 ++ (G ++ N))) (fun vi _ => 24 - (intOf vi).toNat)
                      case atStart => exact ⟨0, by omega, rfl, S8.out⟩
                      case round =>
                        clear S8
                        obtain ⟨i, hi, rfl, hs⟩ := hrel
                        have S9 := Lib.hid hs; clear hs
                        by_cases hlt : i < 24
                        · obtain ⟨⟨X, y, z⟩, hx⟩ := get_ds HDB.out (show i < 4 + 20 from hlt)
                          obtain ⟨bb, oo, eA, m1⟩ := RB.out _ S9.out i _ hx
                          have hy : y = 2 := HLB.out i _ hx
                          subst eA hy
                          simp only [es] at m1
                          have i1 : (i : Int) < 24 := by omega
                          clear hx
                          go_wp2_with fail
                          clear m1
                          refine ⟨⟨i + 1, by omega, by simp, S9.out⟩, ?_⟩
                          simp [intOf]; omega
                        · go_wp2_with fail
                          go_ret
                          exact ⟨rfl, S9.out.drop ((List.sublist_append_right G _).trans (List.sublist_append_right G2 _))⟩

end Go.Proofs.Ytadgjmlkpnifoaa.Pq
