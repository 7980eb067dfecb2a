/- The law NibbleScript of layer 6: its walk. -/
import Derived.Test.YthfenafhdigniaaNq
import Derived.Deep.RegionLaw
import Derived.Deep.RegionHeld3
namespace Go.Proofs.Ythfenafhdigniaa.L6
set_option linter.unusedSimpArgs false
set_option linter.unusedVariables false
open Go Go.RowKit Go.Proofs.Ythfenafhdigniaa Go.Proofs.Ythfenafhdigniaa.Mm Go.Proofs.Ythfenafhdigniaa.Gf Go.Proofs.Ythfenafhdigniaa.Wr Go.Proofs.Ythfenafhdigniaa.Nb Go.Proofs.Ythfenafhdigniaa.St

theorem info_sl3 : (Try.prog.info? 22).map (fun i => (i.zero, i.size, i.bytes)) = some (some (es ⟨none, 0, 0⟩), 1, 24) := by kernel_rfl
abbrev T6 := Bool × Nat × Int × Int × Unit
abbrev kOp6 : Kk.K T6 := Kk.kPair Kk.kBool (Kk.kPair Kk.kByte (Kk.kPair (Kk.kInt .i64) (Kk.kPair (Kk.kInt .i64) Kk.kUnit)))
theorem kOp6_ok {B : Nat} {w : World} {cs : List Value} {x : T6} (h : kOp6.ok B w cs x) : cs = [.bool x.1, .int .u8 (x.2.1 : Int), .int .i64 x.2.2.1, .int .i64 x.2.2.2.1] ∧ x.2.1 < 256 := by
  obtain ⟨c1, _, rfl, _, h1, c2, _, rfl, _, ⟨rfl, h2⟩, c3, _, rfl, _, ⟨rfl, _⟩, c4, _, rfl, _, ⟨rfl, _⟩, h5⟩ := h
  have h1' : _ = [Value.bool x.1] := h1
  have h5' : _ = [] := h5
  subst h1' h5'
  exact ⟨rfl, h2⟩
theorem ops6_at {B : Nat} {w : World} {A : Option Addr} {xs : List T6} (h : Kk.Row kOp6 B w A xs) (h0 : 0 < xs.length) :
    ∃ bk off, A = some ⟨bk, off, none⟩ ∧ bk < B ∧ ∀ i, i < xs.length → ∃ (add : Bool) (c : Nat) (to fr : Int), c < 256 ∧ w.cell? ⟨bk, off + i * 4, none⟩ = some (.bool add) ∧ w.cell? ⟨bk, off + (i * 4 + 1), none⟩ = some (.int .u8 (c : Int)) ∧ w.cell? ⟨bk, off + (i * 4 + 2), none⟩ = some (.int .i64 to) ∧ w.cell? ⟨bk, off + (i * 4 + 3), none⟩ = some (.int .i64 fr) := by
  obtain ⟨bk, off, hA, hb, hc⟩ := h h0
  refine ⟨bk, off, hA, hb, fun i hi => ?_⟩
  obtain ⟨cs, hok, hcell⟩ := hc i hi
  obtain ⟨rfl, h3⟩ := kOp6_ok hok
  exact ⟨_, _, _, _, h3, hcell 0 _ rfl, hcell 1 _ rfl, hcell 2 _ rfl, hcell 3 _ rfl⟩
theorem opens_ops6 : Kk.Opens Try.prog 42 (Kk.kSlice kOp6 24) :=
  Kk.opens_slice Try.underlying42 (by kernel_rfl) (by decide) (by kernel_rfl)
    (Kk.opens_struct Try.underlying45 (by kernel_rfl)
      (Kk.opensFs_cons rfl (Kk.opens_bool Try.underlying4 (by kernel_rfl)) (Kk.opensFs_cons rfl (Kk.opens_byte Try.underlying5 (by kernel_rfl)) (Kk.opensFs_cons rfl (Kk.opens_int Try.underlying3 (by kernel_rfl)) (Kk.opensFs_cons rfl (Kk.opens_int Try.underlying3 (by kernel_rfl)) Kk.opensFs_nil)))))

section
variable {P : Program} {w0 w : World} {W N : List Ent} {ops : Array Oper} {rest : List Oper} {o : Oper} {a : Act} {Q : Exit → Act → World → Prop}
theorem bslice_law (hgd : o.guard = none) (t e : TypeId) (n : Nat) (parts : Array (Nat × Operand)) (c : Array Value) (ho : o.op = .buildSlice t n parts)
    (h : ∀ w : World, (Instr.buildSlice t n (parts.map fun (i, x) => (i, a.eval x))).run P w = .ok (.slice (some ⟨w.heap.size, 0, none⟩) n n) (w.alloc (.cells c e (0, 0)))) (hs : St w0 w W N)
    (hK : ∀ b w', St w0 w' W (⟨b, e, c⟩ :: N) → wpList P ops Q rest (a.put o.dst (.slice (some ⟨b, 0, none⟩) n n)) w') : wpList P ops Q (o :: rest) a w :=
  ev hgd (bslice_run t e n parts c ho h) (hK _ _ (hs.alloc e c))
end

set_option maxRecDepth 100000 in
set_option maxHeartbeats 8000000 in
theorem script_walk (A : Option Addr) (n cp : Nat) (ls : List (List Nat)) (A2 : Option Addr) (m cp2 : Nat) (xs : List T6) (w : World) (h : (Kk.kSlice kSl 24).ok w.heap.size w [.slice A n cp] ls) (h2 : (Kk.kSlice kOp6 24).ok w.heap.size w [.slice A2 m cp2] xs) :
    Calls Try.prog 7 #[.slice A n cp, .slice A2 m cp2] w fun e w' => e = .returned (.bool true) ∧ Below w.heap.size w w' := by
  obtain ⟨hn, hn24, hncp, hrl, hlb⟩ := open_lists h
  obtain ⟨A', c', he, hlc, _, hr2, hrow⟩ := h2
  injection he with he _
  injection he with e1 e2 e3
  subst e1 e2 e3
  have hm63 : xs.length ≤ 140737488351232 := by unfold reachBytes at hr2; omega
  have HN := Lib.hid hn; have HRL := Lib.hid hrl; have HLB := Lib.hid hlb; have HX := Lib.hid hrow
  clear h hn hrl hlb hrow hlc hr2
  obtain ⟨m, hm⟩ : ∃ m, Hid (xs.length = m) := ⟨_, Lib.hid rfl⟩
  rw [hm.out] at hm63 ⊢
  have S0 := Lib.hid (St.start w)
  by_cases h0 : n = 0
  · subst h0
    go_enter Try.func7, Try.ntmps7
    go_wp2_with fail
    refine (fixed_st _).mono ?_
    rintro e w1 ⟨rfl, hh⟩
    have h1 := S0.out.call hh; clear hh S0
    try simp only [List.nil_append, List.cons_append, List.append_eq, Int.toNat_natCast] at h1
    have S1 := Lib.hid h1; clear h1
    go_wp2_with fail
    go_ret
    exact ⟨rfl, S1.out.below⟩
  have h0' : ¬ (n : Int) = 0 := by omega
  have hn1 : 0 < n := by omega
  go_enter Try.func7, Try.ntmps7
  go_wp2_with fail
  refine (fixed_st _).mono ?_
  rintro e w1 ⟨rfl, hh⟩
  have h1 := S0.out.call hh; clear hh S0
  try simp only [List.nil_append, List.cons_append, List.append_eq, Int.toNat_natCast] at h1
  have S1 := Lib.hid h1; clear h1
  go_wp2_with fail
  refine (new_st _).mono ?_
  rintro e w2 ⟨p1, rfl, hh⟩
  have h2 := S1.out.call hh; clear hh S1
  try simp only [List.nil_append, List.cons_append, List.append_eq, Int.toNat_natCast] at h2
  have S2 := Lib.hid h2; clear h2
  go_wp2_with fail
  refine (new_st _).mono ?_
  rintro e w3 ⟨p2, rfl, hh⟩
  have h3 := S2.out.call hh; clear hh S2
  try simp only [List.nil_append, List.cons_append, List.append_eq, Int.toNat_natCast] at h3
  have S3 := Lib.hid h3; clear h3
  go_wp2_with ((with_reducible refine at_slot (N := 25) rfl ?_); refine bslice_law rfl _ 23 2 _ #[.pointer (some p1), .pointer (some p2)] rfl (fun _ => by kernel_rfl) S3.out ?_; intro kb w4 h4; (try simp only [World.size_alloc, List.nil_append, List.cons_append, List.append_eq] at h4); have S4 := Lib.hid h4; clear h4 S3)
  have SK := S4; clear S4
  obtain ⟨KB, HKB⟩ : ∃ KB : List Ent, Hid (KB = [⟨kb, 23, #[.pointer (some p1), .pointer (some p2)]⟩]) := ⟨_, Lib.hid rfl⟩
  rw [← HKB.out] at SK
  go_loopw [6, 7, 28] (fun vh vt vi wr => ∃ (i : Nat) (dh dw : List Sd) (Gh Gw RR : List Ent) (Gs : List (List Ent)), i ≤ n ∧ vi = .int .i64 i ∧ dh.length = i ∧ dw.length = i ∧ GrowV es 22 vh dh Gh ∧ GrowV es 22 vt dw Gw ∧ Fam i (Ful dh ls) Gs ∧ Wnt dw ls RR ∧ St w wr [] (Gh ++ (Gw ++ (Gs.flatten ++ (RR ++ KB))))) (fun _ _ vi _ => n - (intOf vi).toNat)
  case atStart => exact ⟨0, [], [], [], [], [], [], by omega, rfl, rfl, rfl, GrowV.nil, GrowV.nil, Fam.nil _, Wnt.nil ls, SK.out⟩
  case round =>
    clear SK
    obtain ⟨i, dh, dw, Gh, Gw, RR, Gs, hi, rfl, hdh, hdw, hgh, hgw, hfam, hwnt, hs⟩ := hrel
    have S4 := Lib.hid hs; have HDH := Lib.hid hdh; have HDW := Lib.hid hdw; have HGH := Lib.hid hgh; have HGW := Lib.hid hgw; have HF := Lib.hid hfam; have HW := Lib.hid hwnt
    clear hs hdh hdw hgh hgw hfam hwnt
    by_cases hlt : i < n
    · obtain ⟨bs, os, A1, c1, eA, mA, rA⟩ := (S4.out.extL HRL.out) i (by rw [HN.out]; exact hlt)
      obtain ⟨l8, ll⟩ := HLB.out i (by rw [HN.out]; exact hlt)
      subst eA
      obtain ⟨l, hl⟩ : ∃ l, Hid (ls.getD i [] = l) := ⟨_, Lib.hid rfl⟩
      rw [hl.out] at mA rA l8 ll
      have HLS : Hid (ls[i]? = some l) := Lib.hid (by
        have hil : i < ls.length := by rw [HN.out]; exact hlt
        rw [List.getElem?_eq_getElem hil]
        have := hl.out
        rw [List.getD_eq_getElem?_getD, List.getElem?_eq_getElem hil] at this
        exact congrArg some this)
      obtain ⟨k, hk⟩ : ∃ k, Hid (l.length = k) := ⟨_, Lib.hid rfl⟩
      rw [hk.out] at mA ll
      have RA : Hid (Rd w A1 l) := Lib.hid (by
        obtain ⟨b', o', A', c', e', m', r'⟩ := HRL.out i (by rw [HN.out]; exact hlt)
        injection e' with e'; injection e' with e1 e2 _; subst e1 e2
        have hcell := m'
        rw [hl.out, hk.out] at hcell
        have hb := S4.out.below.cell (p := ⟨bs, os + i, none⟩) (cell_lt m')
        rw [mA, hcell] at hb
        injection hb with hb; injection hb with e1 _ _; subst e1
        rw [hl.out] at r'; exact r')
      have i1 : (i : Int) < (n : Int) := by omega
      have i0 : (0 : Int) ≤ (i : Int) := by omega
      clear rA
      go_wp2_with fail
      refine (copied_st hk.out (by omega) (S4.out.ext RA.out)).mono ?_
      rintro e w5 ⟨b1, rfl, hh⟩
      have h5 := S4.out.call hh; clear hh S4
      try simp only [List.nil_append, List.cons_append, List.append_eq, Int.toNat_natCast] at h5
      have S5 := Lib.hid h5; clear h5
      go_wp2_with ((with_reducible refine at_slot (N := 36) rfl ?_); refine append_v (enc := es) (N := [bt b1 l] ++ (Gw ++ (Gs.flatten ++ (RR ++ KB)))) (G := Gh) rfl _ _ _ rfl ⟨none, 0, 0⟩ 24 Try.underlying38 info_sl3 rfl (fun _ => rfl) _ _ rfl ((S5.out.skip (t := 22) (c := cellsV es [⟨some ⟨b1, 0, none⟩, k, k⟩])).perm (front_perm [_] _ _)) HGH.out (some ⟨w5.heap.size, 0, none⟩) 1 1 [⟨some ⟨b1, 0, none⟩, k, k⟩] rfl rfl (RdV.of_blk (Blk.new w5 _ _)) (by rw [HDH.out]; show (i + 1) * 24 ≤ _; omega) (by rw [HDH.out]; show i + 1 ≤ _; unfold maxLen; omega) ?_; intro vh' w6 Gh' h6 hg' hz; have HGH' := Lib.hid hg'; clear hg' hz HGH; (try simp only [World.size_alloc, List.nil_append, List.cons_append, List.append_eq] at h6); have S6 := Lib.hid h6; clear h6 S5)
      refine (copied_st hk.out (by omega) (S6.out.ext RA.out)).mono ?_
      rintro e w7 ⟨b2, rfl, hh⟩
      have h7 := S6.out.call hh; clear hh S6
      try simp only [List.nil_append, List.cons_append, List.append_eq, Int.toNat_natCast] at h7
      have S7 := Lib.hid h7; clear h7
      have S9 : Hid (St w w7 [] (Gw ++ ([bt b2 l] ++ (Gh' ++ ([bt b1 l] ++ (Gs.flatten ++ (RR ++ KB))))))) := Lib.hid (S7.out.perm (by classical exact List.perm_iff_count.2 fun a => by simp only [List.flatten_append, List.flatten_cons, List.flatten_nil, List.append_nil, List.nil_append, List.cons_append, List.count_append, List.count_cons, List.count_nil]; omega))
      obtain ⟨w9, hw9⟩ : ∃ w9, w9 = w7 := ⟨_, rfl⟩
      rw [← hw9] at S9
      go_wp2_with ((with_reducible refine at_slot (N := 41) rfl ?_); rw [← hw9]; refine append_v (enc := es) (N := [bt b2 l] ++ (Gh' ++ ([bt b1 l] ++ (Gs.flatten ++ (RR ++ KB))))) (G := Gw) rfl _ _ _ rfl ⟨none, 0, 0⟩ 24 Try.underlying38 info_sl3 rfl (fun _ => rfl) _ _ rfl (S9.out.skip (t := 22) (c := cellsV es [⟨some ⟨b2, 0, none⟩, k, k⟩])) HGW.out (some ⟨w9.heap.size, 0, none⟩) 1 1 [⟨some ⟨b2, 0, none⟩, k, k⟩] rfl rfl (RdV.of_blk (Blk.new w9 _ _)) (by rw [HDW.out]; show (i + 1) * 24 ≤ _; omega) (by rw [HDW.out]; show i + 1 ≤ _; unfold maxLen; omega) ?_; intro vt' w8 Gw' h8 hg' hz; have HGW' := Lib.hid hg'; clear hg' hz HGW; (try simp only [World.size_alloc, List.nil_append, List.cons_append, List.append_eq] at h8); have S8 := Lib.hid h8; clear h8 S7)
      have hdh := HDH.out
      have hdw := HDW.out
      have hkl := hk.out
      refine ⟨⟨i + 1, dh ++ [⟨some ⟨b1, 0, none⟩, k, k⟩], dw ++ [⟨some ⟨b2, 0, none⟩, k, k⟩], Gh', Gw', [bt b2 l] ++ RR, Gs ++ [[bt b1 l]], by omega, by simp, by simp [hdh], by simp [hdw], HGH'.out, HGW'.out, ?_, ?_, S8.out.perm (by classical exact List.perm_iff_count.2 fun a => by simp only [List.flatten_append, List.flatten_cons, List.flatten_nil, List.append_nil, List.nil_append, List.cons_append, List.count_append, List.count_cons, List.count_nil]; omega)⟩, ?_⟩
      · refine Fam.snoc (HF.out.imp fun j G hj ⟨b, l, q1, q2, q3⟩ => ⟨b, l, by rw [List.getElem?_append_left (by omega)]; exact q1, q2, q3⟩) ⟨b1, l, ?_, HLS.out, rfl⟩
        rw [List.getElem?_append_right (by omega), hdh, Nat.sub_self, hkl]; rfl
      · refine HW.out.snoc (d := ⟨some ⟨b2, 0, none⟩, k, k⟩) (by rw [hdw, hl.out, hkl]) (.inr ⟨_, List.mem_singleton.2 rfl, rfl, fun j u hu => ?_⟩)
        rw [hdw, hl.out] at hu
        simpa [row] using hu
      · simp [intOf]; omega
    · obtain rfl : i = n := by omega
      obtain ⟨hb, Dh, rfl, hl1, hl2, ht1, rfl⟩ := HGH.out.full es_inj (by rw [HDH.out]; exact hn1)
      obtain ⟨wb, Dw, rfl, hl3, hl4, ht2, rfl⟩ := HGW.out.full es_inj (by rw [HDW.out]; exact hn1)
      obtain ⟨ch, hch⟩ : ∃ ch, Hid (Dh.length = ch) := ⟨_, Lib.hid rfl⟩
      obtain ⟨cw, hcw⟩ : ∃ cw, Hid (Dw.length = cw) := ⟨_, Lib.hid rfl⟩
      rw [hch.out] at hl1 ⊢
      rw [hcw.out] at hl3 ⊢
      rw [HDH.out] at hl1 ht1 ⊢
      rw [HDW.out] at hl3 ht2 ⊢
      obtain ⟨n, rfl⟩ : ∃ n, n = i := ⟨_, rfl⟩
      have HT1 := Lib.hid ht1; have HT2 := Lib.hid ht2
      have S5 : Hid (St w wr [] (Gs.flatten ++ ([⟨hb, 22, cellsV es Dh⟩] ++ ([⟨wb, 22, cellsV es Dw⟩] ++ (RR ++ KB))))) := Lib.hid (S4.out.perm (by classical exact List.perm_iff_count.2 fun a => by simp only [List.count_append]; omega))
      have HGE : Hid (∀ (w' : World) (N' : List Ent), St w w' [] N' → (⟨hb, 22, cellsV es Dh⟩ : Ent) ∈ N' → ∀ (k : Nat) (d : Sd), dh[k]? = some d → w'.cell? ⟨hb, k, none⟩ = some (es d)) := Lib.hid (fun w' N' hs hm k d hd => (hs.blk hm).cell (cellsV_get (by
        rw [← HT1.out, List.getElem?_take] at hd
        split at hd
        · exact hd
        · cases hd)))
      clear S4 HGH HGW ht1 ht2 hlt hi hl2 hl4
      have hl1' : (n : Int) ≤ (ch : Int) := by omega
      go_wp2_with fail
      go_loopw [45] (fun vi wr => ∃ (i : Nat) (lv : List (List Nat)) (Dw dw : List Sd) (RR : List Ent) (Gs : List (List Ent)), i ≤ m ∧ vi = .int .i64 i ∧ LB lv ∧ lv.length = n ∧ Dw.take n = dw ∧ dw.length = n ∧ Fam n (Ful dh lv) Gs ∧ Wnt dw lv RR ∧ St w wr [] (Gs.flatten ++ ([⟨hb, 22, cellsV es Dh⟩] ++ ([⟨wb, 22, cellsV es Dw⟩] ++ (RR ++ KB))))) (fun vi _ => m - (intOf vi).toNat)
      case atStart => exact ⟨0, ls, Dw, dw, RR, Gs, by omega, rfl, HLB.out, HN.out, HT2.out, HDW.out, HF.out, HW.out, S5.out⟩
      case round =>
        clear S5 HF HW HT2 HDW hcw hl3
        obtain ⟨i, lv, Dw, dw, RR, Gs, hi, rfl, hlb, hlv, ht2, hdw, hfam, hwnt, hs⟩ := hrel
        have S6 := Lib.hid hs; have HLV := Lib.hid hlv; have HT2 := Lib.hid ht2; have HF := Lib.hid hfam; have HW := Lib.hid hwnt; have HLB2 := Lib.hid hlb; have HDW := Lib.hid hdw
        clear hs hlv ht2 hfam hwnt hlb hdw
        by_cases hlt : i < m
        · obtain ⟨bk, off, eA, hbk, hat⟩ := ops6_at HX.out (by rw [hm.out]; omega)
          obtain ⟨add, c, to, fr, hc, m0, m1, m2, m3⟩ := hat i (by rw [hm.out]; exact hlt)
          subst eA
          clear hat
          rw [← S6.out.rules.1 bk _ hbk] at m0 m1 m2 m3
          rw [← Nat.add_assoc] at m1 m2 m3
          have i0 : (0 : Int) ≤ (i : Int) := by omega
          have i1 : (i : Int) < (m : Int) := by omega
          obtain ⟨pk, hpk⟩ : ∃ pk : Addr, Hid ((#[Value.pointer (some p1), Value.pointer (some p2)] : Array Value)[i % 2]? = some (.pointer (some pk))) := by
            rcases Nat.mod_two_eq_zero_or_one i with q | q
            · exact ⟨p1, Lib.hid (by rw [q]; rfl)⟩
            · exact ⟨p2, Lib.hid (by rw [q]; rfl)⟩
          obtain ⟨r, hr⟩ : ∃ r, Hid (i % 2 = r) := ⟨_, Lib.hid rfl⟩
          have mk := (S6.out.blk (b := kb) (t := 23) (c := #[.pointer (some p1), .pointer (some p2)]) (by rw [HKB.out]; simp)).cell hpk.out
          rw [hr.out] at mk
          have klt : kb < wr.heap.size := cell_lt mk
          have r1 : (i : Int) % 2 = (r : Int) := by rw [← hr.out]; omega
          have r2 : (i : Int).tmod 2 = (r : Int) := by rw [Int.tmod_eq_emod_of_nonneg (by omega)]; exact r1
          have r3 : (r : Int) < 2 := by rw [← r1]; omega
          have r4 : (0 : Int) ≤ (r : Int) := by omega
          go_wp2_with fail
          have HOB := Lib.hid (S6.out.alloc 45 #[.bool add, .int .u8 (c : Int), .int .i64 to, .int .i64 fr])
          obtain ⟨OB, hOB⟩ : ∃ OB : Ent, Hid (OB = ⟨wr.heap.size, 45, #[.bool add, .int .u8 (c : Int), .int .i64 to, .int .i64 fr]⟩) := ⟨_, Lib.hid rfl⟩
          have HCO : Hid (∀ w' N', St w w' [] N' → OB ∈ N' → w'.cell? ⟨wr.heap.size, 0, none⟩ = some (.bool add) ∧ w'.cell? ⟨wr.heap.size, 1, none⟩ = some (.int .u8 (c : Int)) ∧ w'.cell? ⟨wr.heap.size, 2, none⟩ = some (.int .i64 to) ∧ w'.cell? ⟨wr.heap.size, 3, none⟩ = some (.int .i64 fr)) := Lib.hid (fun w' N' hs hm => by
            rw [hOB.out] at hm
            have hb := hs.blk hm
            exact ⟨hb.cell (i := 0) rfl, hb.cell (i := 1) rfl, hb.cell (i := 2) rfl, hb.cell (i := 3) rfl⟩)
          rw [← hOB.out] at HOB
          have S7 := Lib.hid (HOB.out.perm (front_perm [_] _ _))
          obtain ⟨t, ht⟩ : ∃ t, Hid (plc to n = t) := ⟨_, Lib.hid rfl⟩
          obtain ⟨q, hq⟩ : ∃ q, Hid (plc fr n = q) := ⟨_, Lib.hid rfl⟩
          have htn : t < n := by rw [← ht.out]; exact plc_lt hn1
          have hqn : q < n := by rw [← hq.out]; exact plc_lt hn1
          have PT : Hid (∀ (W : World) (N' : List Ent), St w W [] N' → Calls Try.prog 24 #[.int .i64 to, .int .i64 (n : Int)] W fun e w' => e = .returned (.int .i64 (t : Int)) ∧ St W w' [] []) := Lib.hid (fun W _ _ => by rw [← ht.out]; exact place_st to n W hn1 (by omega))
          have PQ : Hid (∀ (W : World) (N' : List Ent), St w W [] N' → Calls Try.prog 24 #[.int .i64 fr, .int .i64 (n : Int)] W fun e w' => e = .returned (.int .i64 (q : Int)) ∧ St W w' [] []) := Lib.hid (fun W _ _ => by rw [← hq.out]; exact place_st fr n W hn1 (by omega))
          clear HOB m0 m1 m2 m3 mk r1 r2 r3 r4 S6
          have oc2 := (HCO.out _ _ S7.out (by simp)).2.2.1
          have oc3 := (HCO.out _ _ S7.out (by simp)).2.2.2
          have S8 := Lib.hid S7.out.drew; clear S7
          go_region_held3 (fun w' => w'.cell? ⟨wr.heap.size, 2, none⟩ = some (.int .i64 to) ∧ w'.cell? ⟨wr.heap.size, 3, none⟩ = some (.int .i64 fr)) (first | exact (HCO.out _ _ S10.out (by simp)).2.2 | exact (HCO.out _ _ S9.out (by simp)).2.2 | exact (HCO.out _ _ S8.out (by simp)).2.2 | exact (HCO.out _ _ S7.out (by simp)).2.2 | exact (HCO.out _ _ S11.out (by simp)).2.2 | exact (HCO.out _ _ S12.out (by simp)).2.2 | exact (HCO.out _ _ S13.out (by simp)).2.2) (first
            | (go_at_call 24; refine (PT.out _ _ S8.out).mono ?_; rintro e w9 ⟨rfl, hh⟩; have h9 := S8.out.call hh; clear hh S8; (try simp only [List.nil_append, List.cons_append, List.append_eq, Int.toNat_natCast] at h9); have S9 := Lib.hid h9; clear h9)
            | (go_at_call 24; refine (PQ.out _ _ S9.out).mono ?_; rintro e w10 ⟨rfl, hh⟩; have h10 := S9.out.call hh; clear hh S9; (try simp only [List.nil_append, List.cons_append, List.append_eq, Int.toNat_natCast] at h10); have S10 := Lib.hid h10; clear h10))
          have SP := S10; clear S10
          clear oc2 oc3 PT PQ ht hq
          obtain ⟨GT, _, ⟨bt_, D, hdt, hlt2, _⟩, _⟩ := HF.out.get htn
          obtain ⟨GQ, _, ⟨bq_, l, hdq, hlq, _⟩, _⟩ := HF.out.get hqn
          obtain ⟨R, f, hrs⟩ : ∃ R f, rs add c D l = (R, f) := ⟨_, _, rfl⟩
          obtain ⟨x1, hx1⟩ := get_ds HDW.out htn
          obtain ⟨x2, hx2⟩ := get_ds HDW.out hqn
          have HRL2 : Hid (R.length = D.length) := Lib.hid (by have := rs_length (add := add) (c := c) (D := D) (l := l); rw [hrs] at this; exact this)
          have LBD := Lib.hid (lb_get HLB2.out hlt2)
          have LBL := Lib.hid (lb_get HLB2.out hlq)
          have HLB3 : Hid (LB (lv.set t R)) := Lib.hid (lb_set HLB2.out t (by have := rs_b8 (add := add) (D := D) (l := l) hc LBD.out.1; rw [hrs] at this; exact this) (by rw [HRL2.out]; exact LBD.out.2))
          obtain ⟨w1n, w1h⟩ := HW.out t x1 hx1
          obtain ⟨w2n, w2h⟩ := HW.out q x2 hx2
          rw [List.getD_eq_getElem?_getD, hlt2] at w1n w1h
          rw [List.getD_eq_getElem?_getD, hlq] at w2n w2h
          simp only [Option.getD_some] at w1n w1h w2n w2h
          obtain ⟨X1, y1, z1⟩ := x1
          obtain ⟨X2, y2, z2⟩ := x2
          simp only at w1n w1h w2n w2h
          obtain ⟨nt, hnt⟩ : ∃ nt, Hid (D.length = nt) := ⟨_, Lib.hid rfl⟩
          obtain ⟨nq, hnq⟩ : ∃ nq, Hid (l.length = nq) := ⟨_, Lib.hid rfl⟩
          rw [hnt.out] at hdt w1n
          rw [hnq.out] at hdq w2n
          subst w1n w2n
          have HDT := Lib.hid hdt; have HDQ := Lib.hid hdq; have HWT := Lib.hid hx1; have HWQ := Lib.hid hx2; have H1h := Lib.hid w1h; have H2h := Lib.hid w2h; have HRS := Lib.hid hrs; have HLT := Lib.hid hlt2; have HLQ := Lib.hid hlq
          clear hdt hdq hx1 hx2 w1h w2h hrs hlt2 hlq
          have t0 : (0 : Int) ≤ (t : Int) := by omega
          have t1 : (t : Int) < (n : Int) := by omega
          have q0 : (0 : Int) ≤ (q : Int) := by omega
          have q1 : (q : Int) < (n : Int) := by omega
          have WL : Hid (∀ k d, dw[k]? = some d → Dw[k]? = some d) := Lib.hid (fun k d hd => by
            rw [← HT2.out, List.getElem?_take] at hd
            split at hd
            · exact hd
            · cases hd)
          have oc0 := (HCO.out _ _ SP.out (by simp)).1
          have mh1 := HGE.out _ _ SP.out (by simp) t _ HDT.out
          have mh2 := HGE.out _ _ SP.out (by simp) q _ HDQ.out
          have oc1 := (HCO.out _ _ SP.out (by simp)).2.1
          simp only [es] at mh1 mh2
          cases add with
          | true =>
            have MC : Hid (∀ (W : World) (N' : List Ent), St w W [] (Gs.flatten ++ N') → Calls Try.prog 21 #[.pointer (some pk), .int .u8 (c : Int), .slice (some ⟨bt_, 0, none⟩) y1 y1, .slice (some ⟨bq_, 0, none⟩) y2 y2] W fun e w' => ∃ Gs', Fam n (Ful dh (lv.set t R)) Gs' ∧ e = .returned (.int .i64 f) ∧ St w w' [] (Gs'.flatten ++ N')) := Lib.hid (fun W N' hs => (fam_mul true pk hc HF.out hs htn hqn HDT.out HDQ.out HLT.out HLQ.out HLB2.out HRS.out).mono fun e w' ⟨h1, Gs', h2, h3⟩ => ⟨Gs', h2, h1, h3⟩)
            have RC : Hid (∀ (W : World) (N' : List Ent), St w W [] N' → (∀ e ∈ RR, e ∈ N') → Calls Try.prog 23 #[.int .u8 (c : Int), .slice X1 y1 z1, .slice X2 y2 z2] W fun e w' => ∃ A' cp G, GrowB (.slice A' y1 cp) R G ∧ e = .returned (.tuple #[.slice A' y1 cp, .int .i64 f]) ∧ St W w' [] G) := Lib.hid (fun W N' hs hm => ref_any true hc hnt.out hnq.out LBD.out LBL.out (hold_rd H1h.out hs hm) (hold_rd H2h.out hs hm) HRS.out)
            have HKEEP : Hid (∀ w' N', St w w' [] N' → OB ∈ N' → (⟨hb, 22, cellsV es Dh⟩ : Ent) ∈ N' → w'.cell? ⟨wr.heap.size, 1, none⟩ = some (.int .u8 (c : Int)) ∧ w'.cell? ⟨hb, t, none⟩ = some (.slice (some ⟨bt_, 0, none⟩) y1 y1) ∧ w'.cell? ⟨hb, q, none⟩ = some (.slice (some ⟨bq_, 0, none⟩) y2 y2)) := Lib.hid (fun w' N' hs h1 h2 => ⟨(HCO.out _ _ hs h1).2.1, HGE.out _ _ hs h2 t _ HDT.out, HGE.out _ _ hs h2 q _ HDQ.out⟩)
            go_wp2_with fail
            clear oc0
            have S11 := Lib.hid SP.out.drew; clear SP
            go_region_held3 (fun w' => w'.cell? ⟨wr.heap.size, 1, none⟩ = some (.int .u8 (c : Int)) ∧ w'.cell? ⟨hb, t, none⟩ = some (.slice (some ⟨bt_, 0, none⟩) y1 y1) ∧ w'.cell? ⟨hb, q, none⟩ = some (.slice (some ⟨bq_, 0, none⟩) y2 y2)) (first | exact HKEEP.out _ _ S12.out (by simp) (by simp) | exact HKEEP.out _ _ S11.out (by simp) (by simp)) (first
              | (go_at_call 21; refine (MC.out _ _ S11.out).mono ?_; rintro e w12 ⟨Gs2, hF2, rfl, h12⟩; have HF2 := Lib.hid hF2; clear hF2; (try simp only [World.size_alloc, List.nil_append, List.cons_append, List.append_eq] at h12); have S12 := Lib.hid h12; clear h12 S11))
            have SM := S12; clear S12
            clear oc1 mh1 mh2 MC HKEEP
            obtain ⟨wM, hwM⟩ : ∃ wM, wM = w12 := ⟨_, rfl⟩
            rw [← hwM] at SM
            have oc1 : w12.cell? ⟨wr.heap.size, 1, none⟩ = some (.int .u8 (c : Int)) := by rw [← hwM]; exact (HCO.out _ _ SM.out (by simp)).2.1
            have mw1 : w12.cell? ⟨wb, t, none⟩ = some (.slice X1 y1 z1) := by rw [← hwM]; exact (SM.out.blk (b := wb) (t := 22) (c := cellsV es Dw) (by simp)).cell (v := es ⟨X1, y1, z1⟩) (cellsV_get (WL.out t _ HWT.out))
            have mw2 : w12.cell? ⟨wb, q, none⟩ = some (.slice X2 y2 z2) := by rw [← hwM]; exact (SM.out.blk (b := wb) (t := 22) (c := cellsV es Dw) (by simp)).cell (v := es ⟨X2, y2, z2⟩) (cellsV_get (WL.out q _ HWQ.out))
            subst hwM
            go_wp2_with fail
            have SMD := Lib.hid SM.out.drew
            refine wp_region_held_drew (S := fun w' => w'.cell? ⟨wr.heap.size, 1, none⟩ = some (.int .u8 (c : Int))) (by kernel_rfl) (HCO.out _ _ SMD.out (by simp)).2.1 (fun hHeld => ?_)
            refine take_l (v := ?_) 0 rfl (by kernel_rfl) (by kernel_rfl) (by kernel_rfl) (fun _ _ _ h => h) (by rfl) hHeld (fun w hSw => ?_) ?_
            rotate_left
            · (try dsimp only at hSw); go_simp; try (with_reducible rfl)
            try simp only [Act.put, List.setIfInBounds_toArray, List.set_cons_zero, List.set_cons_succ]
            refine take_l (v := ?_) 1 rfl (by kernel_rfl) (by kernel_rfl) (by kernel_rfl) (fun _ _ _ h => h) (by rfl) hHeld (fun w hSw => ?_) ?_
            rotate_left
            · (try dsimp only at hSw); go_simp; try (with_reducible rfl)
            try simp only [Act.put, List.setIfInBounds_toArray, List.set_cons_zero, List.set_cons_succ]
            refine take_l (v := ?_) 2 rfl (by kernel_rfl) (by kernel_rfl) (by kernel_rfl) (fun _ _ _ h => h) (by rfl) hHeld (fun w hSw => ?_) ?_
            rotate_left
            · (try dsimp only at hSw); go_simp; try (with_reducible rfl)
            try simp only [Act.put, List.setIfInBounds_toArray, List.set_cons_zero, List.set_cons_succ]
            refine take_l (v := ?_) 3 rfl (by kernel_rfl) (by kernel_rfl) (by kernel_rfl) (fun _ _ _ h => h) (by rfl) hHeld (fun w hSw => ?_) ?_
            rotate_left
            · (try dsimp only at hSw); go_simp; try (with_reducible rfl)
            try simp only [Act.put, List.setIfInBounds_toArray, List.set_cons_zero, List.set_cons_succ]
            refine take_l (v := ?_) 4 rfl (by kernel_rfl) (by kernel_rfl) (by kernel_rfl) (fun _ _ _ h => h) (by rfl) hHeld (fun w hSw => ?_) ?_
            rotate_left
            · (try dsimp only at hSw); go_simp; try (with_reducible rfl)
            try simp only [Act.put, List.setIfInBounds_toArray, List.set_cons_zero, List.set_cons_succ]
            refine take_l (v := ?_) 5 rfl (by kernel_rfl) (by kernel_rfl) (by kernel_rfl) (fun _ _ _ h => h) (by rfl) hHeld (fun w hSw => ?_) ?_
            rotate_left
            · (try dsimp only at hSw); go_simp; try (with_reducible rfl)
            try simp only [Act.put, List.setIfInBounds_toArray, List.set_cons_zero, List.set_cons_succ]
            refine take_l (v := ?_) 6 rfl (by kernel_rfl) (by kernel_rfl) (by kernel_rfl) (fun _ _ _ h => h) (by rfl) hHeld (fun w hSw => ?_) ?_
            rotate_left
            · (try dsimp only at hSw); go_simp; try (with_reducible rfl)
            try simp only [Act.put, List.setIfInBounds_toArray, List.set_cons_zero, List.set_cons_succ]
            refine take_l (v := ?_) 8 rfl (by kernel_rfl) (by kernel_rfl) (by kernel_rfl) (fun _ _ _ h => h) (by rfl) hHeld (fun w hSw => ?_) ?_
            rotate_left
            · (try dsimp only at hSw); go_simp; try (with_reducible rfl)
            try simp only [Act.put, List.setIfInBounds_toArray, List.set_cons_zero, List.set_cons_succ]
            refine take_l (v := ?_) 9 rfl (by kernel_rfl) (by kernel_rfl) (by kernel_rfl) (fun _ _ _ h => h) (by rfl) hHeld (fun w hSw => ?_) ?_
            rotate_left
            · (try dsimp only at hSw); go_simp; try (with_reducible rfl)
            try simp only [Act.put, List.setIfInBounds_toArray, List.set_cons_zero, List.set_cons_succ]
            refine take_l (v := ?_) 10 rfl (by kernel_rfl) (by kernel_rfl) (by kernel_rfl) (fun _ _ _ h => h) (by rfl) hHeld (fun w hSw => ?_) ?_
            rotate_left
            · (try dsimp only at hSw); go_simp; try (with_reducible rfl)
            try simp only [Act.put, List.setIfInBounds_toArray, List.set_cons_zero, List.set_cons_succ]
            refine held_pair (vi := .slice X1 y1 z1) (vj := .slice X2 y2 z2) 7 11 rfl rfl (by kernel_rfl) (by kernel_rfl) (by kernel_rfl) rfl rfl (by decide) (fun d h h' => absurd (h.trans h'.symm) (by decide)) hHeld (by go_simp) (by go_simp) (by go_simp) (by go_simp) ?_
            try simp only [Act.put, List.setIfInBounds_toArray, List.set_cons_zero, List.set_cons_succ]
            refine wpAnyH_ready (rs := [12]) (by kernel_rfl) (by simp) ?_
            refine AllReadyH.cons (o := _) rfl (fun K hK => ?_) AllReadyH.nil
            go_simp
            go_at_call 23; refine (RC.out _ _ SMD.out (fun e he => by simp [he])).mono ?_; rintro e wR ⟨A', cp', G', hg', rfl, hh⟩; have hR := SMD.out.call hh; clear hh; have HG' := Lib.hid hg'; clear hg'; have SR := Lib.hid hR; clear hR
            go_wp2_with fail
            refine hK.out _ _ ((HCO.out _ _ SR.out (by simp)).2.1) (fun hHeld => ?_)
            clear hK K
            try simp only [Act.put, List.setIfInBounds_toArray, List.set_cons_zero, List.set_cons_succ]
            have mr1 : wR.cell? ⟨wb, t, none⟩ = some (.slice X1 y1 z1) := (SR.out.blk (b := wb) (t := 22) (c := cellsV es Dw) (by simp)).cell (v := es ⟨X1, y1, z1⟩) (cellsV_get (WL.out t _ HWT.out))
            have fr1 := (SR.out.blk (b := wb) (t := 22) (c := cellsV es Dw) (by simp)).free (i := t)
            have hSS := St.setV (enc := es) (N1 := G' ++ (Gs2.flatten ++ [OB, ⟨hb, 22, cellsV es Dh⟩])) (b := wb) (t := 22) (l := Dw) (N2 := RR ++ KB) t ⟨A', y1, cp'⟩ (by simpa only [List.append_assoc, List.cons_append, List.nil_append] using SR.out)
            have SS := Lib.hid hSS
            clear hSS SR SMD SM
            refine take_l (v := ?_) 13 rfl (by kernel_rfl) (by kernel_rfl) (by kernel_rfl) (fun _ _ _ h => h) (by rfl) hHeld (fun w hSw => ?_) ?_
            rotate_left
            · (try dsimp only at hSw); go_simp; try (with_reducible rfl)
            try simp only [Act.put, List.setIfInBounds_toArray, List.set_cons_zero, List.set_cons_succ]
            refine take_l (v := ?_) 14 rfl (by kernel_rfl) (by kernel_rfl) (by kernel_rfl) (fun _ _ _ h => h) (by rfl) hHeld (fun w hSw => ?_) ?_
            rotate_left
            · (try dsimp only at hSw); go_simp; try (with_reducible rfl)
            try simp only [Act.put, List.setIfInBounds_toArray, List.set_cons_zero, List.set_cons_succ]
            refine take_l (v := ?_) 15 rfl (by kernel_rfl) (by kernel_rfl) (by kernel_rfl) (fun _ _ _ h => h) (by rfl) hHeld (fun w hSw => ?_) ?_
            rotate_left
            · (try dsimp only at hSw); go_simp; try (with_reducible rfl)
            try simp only [Act.put, List.setIfInBounds_toArray, List.set_cons_zero, List.set_cons_succ]
            refine take_l (v := ?_) 16 rfl (by kernel_rfl) (by kernel_rfl) (by kernel_rfl) (fun _ _ _ h => h) (by rfl) hHeld (fun w hSw => ?_) ?_
            rotate_left
            · (try dsimp only at hSw); go_simp; try (with_reducible rfl)
            try simp only [Act.put, List.setIfInBounds_toArray, List.set_cons_zero, List.set_cons_succ]
            refine wpAnyH_ready (rs := [17]) (by kernel_rfl) (by simp) ?_
            refine AllReadyH.cons (o := _) rfl (fun K hK => ?_) AllReadyH.nil
            go_simp
            refine hK.out _ _ (HCO.out _ _ SS.out (by simp)).2.1 (fun hHeld2 => ?_)
            clear hK K
            try simp only [Act.put, List.setIfInBounds_toArray, List.set_cons_zero, List.set_cons_succ]
            refine take_l (v := ?_) 18 rfl (by kernel_rfl) (by kernel_rfl) (by kernel_rfl) (fun _ _ _ h => h) (by rfl) hHeld2 (fun w hSw => ?_) ?_
            rotate_left
            · (try dsimp only at hSw); go_simp; try (with_reducible rfl)
            try simp only [Act.put, List.setIfInBounds_toArray, List.set_cons_zero, List.set_cons_succ]
            refine wpAnyH_done (by kernel_rfl) ?_ _
            clear mr1 fr1 oc1 mw1 mw2 hHeld hHeld2 RC
            obtain ⟨wS, hwS⟩ : ∃ wS, wS = wR.setCell ⟨wb, t, none⟩ (es ⟨A', y1, cp'⟩) := ⟨_, rfl⟩
            have HDT2 : Hid ((Dw.set t ⟨A', y1, cp'⟩).take n = dw.set t ⟨A', y1, cp'⟩) := Lib.hid (by rw [List.take_set, HT2.out])
            have HDW2 : Hid ((dw.set t ⟨A', y1, cp'⟩).length = n) := Lib.hid (by rw [List.length_set, HDW.out])
            have HLV2 : Hid ((lv.set t R).length = n) := Lib.hid (by rw [List.length_set, HLV.out])
            have HW2 : Hid (Wnt (dw.set t ⟨A', y1, cp'⟩) (lv.set t R) (G' ++ RR)) := Lib.hid (HW.out.set (by rw [HDW.out]; exact htn) (by rw [HLV.out]; exact htn) (by rw [HRL2.out, hnt.out]) (Grow.hold HG'.out.toV))
            obtain ⟨NF, hNF⟩ : ∃ NF : List Ent, Hid (NF = Gs2.flatten ++ ([⟨hb, 22, cellsV es Dh⟩] ++ ([⟨wb, 22, cellsV es (Dw.set t ⟨A', y1, cp'⟩)⟩] ++ ((G' ++ RR) ++ KB)))) := ⟨_, Lib.hid rfl⟩
            have SF : Hid (St w wS [] NF) := Lib.hid (by
              rw [hNF.out, hwS]
              have h1 := SS.out.perm (N' := [OB] ++ (Gs2.flatten ++ ([⟨hb, 22, cellsV es Dh⟩] ++ ([⟨wb, 22, cellsV es (Dw.set t ⟨A', y1, cp'⟩)⟩] ++ ((G' ++ RR) ++ KB))))) (by classical exact List.perm_iff_count.2 fun a => by simp only [List.nil_append, List.cons_append, List.count_append, List.count_cons, List.count_nil]; omega)
              exact h1.drop (List.sublist_append_right _ _))
            have HGE2 : Hid (∀ (wq : World), St w wq [] NF → ∀ (k : Nat) (d : Sd), dh[k]? = some d → wq.cell? ⟨hb, k, none⟩ = some (es d)) := Lib.hid (fun wq hs k d hd => HGE.out wq _ hs (by rw [hNF.out]; simp) k d hd)
            have HWE2 : Hid (∀ (wq : World), St w wq [] NF → ∀ (k : Nat) (d : Sd), (dw.set t ⟨A', y1, cp'⟩)[k]? = some d → wq.cell? ⟨wb, k, none⟩ = some (es d)) := Lib.hid (fun wq hs k d hd => (hs.blk (b := wb) (t := 22) (c := cellsV es (Dw.set t ⟨A', y1, cp'⟩)) (by rw [hNF.out]; simp)).cell (cellsV_get (by
              rw [← HDT2.out, List.getElem?_take] at hd
              split at hd
              · exact hd
              · cases hd)))
            have HRD2 : Hid (∀ (wq : World), St w wq [] NF → ∀ (k : Nat) (d : Sd), (dw.set t ⟨A', y1, cp'⟩)[k]? = some d → d.n = ((lv.set t R).getD k []).length ∧ Rd wq d.A ((lv.set t R).getD k [])) := Lib.hid (fun wq hs k d hd => by
              obtain ⟨q1, q2⟩ := HW2.out k d hd
              exact ⟨q1, hold_rd q2 hs (fun e he => by rw [hNF.out]; simp only [List.mem_append] at he ⊢; exact .inr (.inr (.inr (.inl he))))⟩)
            have HRH2 : Hid (∀ (wq : World), St w wq [] NF → ∀ (k : Nat), k < n → ∃ b l, dh[k]? = some ⟨some ⟨b, 0, none⟩, l.length, l.length⟩ ∧ (lv.set t R)[k]? = some l ∧ Rd wq (some ⟨b, 0, none⟩) l) := Lib.hid (fun wq hs k hk => by
              obtain ⟨G, _, ⟨b, l, q1, q2, rfl⟩, hm⟩ := HF2.out.get hk
              exact ⟨b, l, q1, q2, hs.rd (t := 5) (by rw [hNF.out]; exact List.mem_append_left _ (hm _ (List.mem_singleton.2 rfl)))⟩)
            rw [show wR.setCell ⟨wb, t, none⟩ (Value.slice A' y1 cp') = wS from hwS.symm]
            clear SS hwS
            go_wp2_with fail
            go_loopw [132] (fun vj wq => ∃ j : Nat, j ≤ n ∧ vj = .int .i64 j ∧ St w wq [] NF) (fun vj _ => n - (intOf vj).toNat)
            case atStart => exact ⟨0, by omega, rfl, SF.out⟩
            case round =>
              clear SF
              obtain ⟨j, hj, rfl, hs⟩ := hrel
              have S20 := Lib.hid hs; clear hs
              by_cases hjn : j < n
              · obtain ⟨b, lj, hdj, hlj, _⟩ := HRH2.out _ S20.out j hjn
                obtain ⟨⟨X, y, z⟩, hx⟩ := get_ds HDW2.out hjn
                obtain ⟨hn2, _⟩ := HRD2.out _ S20.out j _ hx
                have hlg : (lv.set t R).getD j [] = lj := by rw [List.getD_eq_getElem?_getD, hlj]; rfl
                rw [hlg] at hn2
                simp only at hn2
                have hbj := (lb_get HLB3.out hlj).2
                rw [← hn2] at hdj hbj
                have hby : y ≤ 281474976710656 := by omega
                have HY := Lib.hid hn2.symm
                have HDJ := Lib.hid hdj; have HXJ := Lib.hid hx; have HLJ := Lib.hid hlj; have HLG := Lib.hid hlg
                clear hn2 hdj hx hlj hlg hbj
                have RDJ : Hid (∀ wq : World, St w wq [] NF → Rd wq (some ⟨b, 0, none⟩) lj ∧ Rd wq X lj) := Lib.hid (fun wq hs => by
                  obtain ⟨b', l', q1, q2, q3⟩ := HRH2.out wq hs j hjn
                  rw [HDJ.out] at q1; injection q1 with q1; injection q1 with e1 _ _; injection e1 with e1; injection e1 with e1 _ _
                  rw [HLJ.out] at q2; injection q2 with q2
                  subst e1 q2
                  have h2 := (HRD2.out wq hs j _ HXJ.out).2
                  rw [HLG.out] at h2
                  exact ⟨q3, h2⟩)
                have HCC : Hid (∀ wq : World, St w wq [] NF → wq.cell? ⟨hb, j, none⟩ = some (.slice (some ⟨b, 0, none⟩) y y) ∧ wq.cell? ⟨wb, j, none⟩ = some (.slice X y z)) := Lib.hid (fun wq hs => ⟨HGE2.out wq hs j _ HDJ.out, HWE2.out wq hs j _ HXJ.out⟩)
                have j1 : (j : Int) < (n : Int) := by omega
                have j0 : (0 : Int) ≤ (j : Int) := by omega
                have m1 := (HCC.out _ S20.out).1
                have m2 := (HCC.out _ S20.out).2
                go_wp2_with fail
                have S21 := Lib.hid S20.out.drew; clear S20
                go_region_held3 (fun w' => w'.cell? ⟨hb, j, none⟩ = some (.slice (some ⟨b, 0, none⟩) y y) ∧ w'.cell? ⟨wb, j, none⟩ = some (.slice X y z)) (first | exact HCC.out _ S22.out | exact HCC.out _ S21.out) (first
                  | (go_at_call 14; refine (equal_st HY.out hby (RDJ.out _ S21.out).1 (RDJ.out _ S21.out).2).mono ?_; rintro e w22 ⟨rfl, hh⟩; have h22 := S21.out.call hh; clear hh S21; (try simp only [List.nil_append, List.cons_append, List.append_eq, Int.toNat_natCast] at h22); have S22 := Lib.hid h22; clear h22))
                clear m1 m2
                go_wp2_with fail
                refine ⟨⟨j + 1, by omega, by simp, S22.out⟩, ?_⟩
                simp [intOf]; omega
              · obtain rfl : j = n := by omega
                go_wp2_with fail
                have hfin := S20.out
                rw [hNF.out] at hfin
                first
                  | (refine ⟨⟨i + 1, lv.set t R, Dw.set t ⟨A', y1, cp'⟩, dw.set t ⟨A', y1, cp'⟩, G' ++ RR, Gs2, by omega, by simp, HLB3.out, HLV2.out, HDT2.out, HDW2.out, HF2.out, HW2.out, hfin⟩, ?_⟩; simp [intOf]; omega)
                  | (refine ⟨?_, ?_⟩
                     · repeat apply Exists.intro
                       refine ⟨?_, rfl⟩
                       exact ⟨i + 1, lv.set t R, Dw.set t ⟨A', y1, cp'⟩, dw.set t ⟨A', y1, cp'⟩, G' ++ RR, Gs2, by omega, by go_num, HLB3.out, HLV2.out, HDT2.out, HDW2.out, HF2.out, HW2.out, hfin⟩
                     · simp [intOf]; omega)
          | false =>
            have MC : Hid (∀ (W : World) (N' : List Ent), St w W [] (Gs.flatten ++ N') → Calls Try.prog 20 #[.pointer (some pk), .int .u8 (c : Int), .slice (some ⟨bt_, 0, none⟩) y1 y1, .slice (some ⟨bq_, 0, none⟩) y2 y2] W fun e w' => ∃ Gs', Fam n (Ful dh (lv.set t R)) Gs' ∧ e = .returned (.int .i64 f) ∧ St w w' [] (Gs'.flatten ++ N')) := Lib.hid (fun W N' hs => (fam_mul false pk hc HF.out hs htn hqn HDT.out HDQ.out HLT.out HLQ.out HLB2.out HRS.out).mono fun e w' ⟨h1, Gs', h2, h3⟩ => ⟨Gs', h2, h1, h3⟩)
            have RC : Hid (∀ (W : World) (N' : List Ent), St w W [] N' → (∀ e ∈ RR, e ∈ N') → Calls Try.prog 22 #[.int .u8 (c : Int), .slice X1 y1 z1, .slice X2 y2 z2] W fun e w' => ∃ A' cp G, GrowB (.slice A' y1 cp) R G ∧ e = .returned (.tuple #[.slice A' y1 cp, .int .i64 f]) ∧ St W w' [] G) := Lib.hid (fun W N' hs hm => ref_any false hc hnt.out hnq.out LBD.out LBL.out (hold_rd H1h.out hs hm) (hold_rd H2h.out hs hm) HRS.out)
            have HKEEP : Hid (∀ w' N', St w w' [] N' → OB ∈ N' → (⟨hb, 22, cellsV es Dh⟩ : Ent) ∈ N' → w'.cell? ⟨wr.heap.size, 1, none⟩ = some (.int .u8 (c : Int)) ∧ w'.cell? ⟨hb, t, none⟩ = some (.slice (some ⟨bt_, 0, none⟩) y1 y1) ∧ w'.cell? ⟨hb, q, none⟩ = some (.slice (some ⟨bq_, 0, none⟩) y2 y2)) := Lib.hid (fun w' N' hs h1 h2 => ⟨(HCO.out _ _ hs h1).2.1, HGE.out _ _ hs h2 t _ HDT.out, HGE.out _ _ hs h2 q _ HDQ.out⟩)
            go_wp2_with fail
            clear oc0
            have S23 := Lib.hid SP.out.drew; clear SP
            go_region_held3 (fun w' => w'.cell? ⟨wr.heap.size, 1, none⟩ = some (.int .u8 (c : Int)) ∧ w'.cell? ⟨hb, t, none⟩ = some (.slice (some ⟨bt_, 0, none⟩) y1 y1) ∧ w'.cell? ⟨hb, q, none⟩ = some (.slice (some ⟨bq_, 0, none⟩) y2 y2)) (first | exact HKEEP.out _ _ S24.out (by simp) (by simp) | exact HKEEP.out _ _ S23.out (by simp) (by simp)) (first
              | (go_at_call 20; refine (MC.out _ _ S23.out).mono ?_; rintro e w24 ⟨Gs2, hF2, rfl, h24⟩; have HF2 := Lib.hid hF2; clear hF2; (try simp only [World.size_alloc, List.nil_append, List.cons_append, List.append_eq] at h24); have S24 := Lib.hid h24; clear h24 S23))
            have SM := S24; clear S24
            clear oc1 mh1 mh2 MC HKEEP
            obtain ⟨wM, hwM⟩ : ∃ wM, wM = w24 := ⟨_, rfl⟩
            rw [← hwM] at SM
            have oc1 : w24.cell? ⟨wr.heap.size, 1, none⟩ = some (.int .u8 (c : Int)) := by rw [← hwM]; exact (HCO.out _ _ SM.out (by simp)).2.1
            have mw1 : w24.cell? ⟨wb, t, none⟩ = some (.slice X1 y1 z1) := by rw [← hwM]; exact (SM.out.blk (b := wb) (t := 22) (c := cellsV es Dw) (by simp)).cell (v := es ⟨X1, y1, z1⟩) (cellsV_get (WL.out t _ HWT.out))
            have mw2 : w24.cell? ⟨wb, q, none⟩ = some (.slice X2 y2 z2) := by rw [← hwM]; exact (SM.out.blk (b := wb) (t := 22) (c := cellsV es Dw) (by simp)).cell (v := es ⟨X2, y2, z2⟩) (cellsV_get (WL.out q _ HWQ.out))
            subst hwM
            go_wp2_with fail
            have SMD := Lib.hid SM.out.drew
            refine wp_region_held_drew (S := fun w' => w'.cell? ⟨wr.heap.size, 1, none⟩ = some (.int .u8 (c : Int))) (by kernel_rfl) (HCO.out _ _ SMD.out (by simp)).2.1 (fun hHeld => ?_)
            refine take_l (v := ?_) 0 rfl (by kernel_rfl) (by kernel_rfl) (by kernel_rfl) (fun _ _ _ h => h) (by rfl) hHeld (fun w hSw => ?_) ?_
            rotate_left
            · (try dsimp only at hSw); go_simp; try (with_reducible rfl)
            try simp only [Act.put, List.setIfInBounds_toArray, List.set_cons_zero, List.set_cons_succ]
            refine take_l (v := ?_) 1 rfl (by kernel_rfl) (by kernel_rfl) (by kernel_rfl) (fun _ _ _ h => h) (by rfl) hHeld (fun w hSw => ?_) ?_
            rotate_left
            · (try dsimp only at hSw); go_simp; try (with_reducible rfl)
            try simp only [Act.put, List.setIfInBounds_toArray, List.set_cons_zero, List.set_cons_succ]
            refine take_l (v := ?_) 2 rfl (by kernel_rfl) (by kernel_rfl) (by kernel_rfl) (fun _ _ _ h => h) (by rfl) hHeld (fun w hSw => ?_) ?_
            rotate_left
            · (try dsimp only at hSw); go_simp; try (with_reducible rfl)
            try simp only [Act.put, List.setIfInBounds_toArray, List.set_cons_zero, List.set_cons_succ]
            refine take_l (v := ?_) 3 rfl (by kernel_rfl) (by kernel_rfl) (by kernel_rfl) (fun _ _ _ h => h) (by rfl) hHeld (fun w hSw => ?_) ?_
            rotate_left
            · (try dsimp only at hSw); go_simp; try (with_reducible rfl)
            try simp only [Act.put, List.setIfInBounds_toArray, List.set_cons_zero, List.set_cons_succ]
            refine take_l (v := ?_) 4 rfl (by kernel_rfl) (by kernel_rfl) (by kernel_rfl) (fun _ _ _ h => h) (by rfl) hHeld (fun w hSw => ?_) ?_
            rotate_left
            · (try dsimp only at hSw); go_simp; try (with_reducible rfl)
            try simp only [Act.put, List.setIfInBounds_toArray, List.set_cons_zero, List.set_cons_succ]
            refine take_l (v := ?_) 5 rfl (by kernel_rfl) (by kernel_rfl) (by kernel_rfl) (fun _ _ _ h => h) (by rfl) hHeld (fun w hSw => ?_) ?_
            rotate_left
            · (try dsimp only at hSw); go_simp; try (with_reducible rfl)
            try simp only [Act.put, List.setIfInBounds_toArray, List.set_cons_zero, List.set_cons_succ]
            refine take_l (v := ?_) 6 rfl (by kernel_rfl) (by kernel_rfl) (by kernel_rfl) (fun _ _ _ h => h) (by rfl) hHeld (fun w hSw => ?_) ?_
            rotate_left
            · (try dsimp only at hSw); go_simp; try (with_reducible rfl)
            try simp only [Act.put, List.setIfInBounds_toArray, List.set_cons_zero, List.set_cons_succ]
            refine take_l (v := ?_) 8 rfl (by kernel_rfl) (by kernel_rfl) (by kernel_rfl) (fun _ _ _ h => h) (by rfl) hHeld (fun w hSw => ?_) ?_
            rotate_left
            · (try dsimp only at hSw); go_simp; try (with_reducible rfl)
            try simp only [Act.put, List.setIfInBounds_toArray, List.set_cons_zero, List.set_cons_succ]
            refine take_l (v := ?_) 9 rfl (by kernel_rfl) (by kernel_rfl) (by kernel_rfl) (fun _ _ _ h => h) (by rfl) hHeld (fun w hSw => ?_) ?_
            rotate_left
            · (try dsimp only at hSw); go_simp; try (with_reducible rfl)
            try simp only [Act.put, List.setIfInBounds_toArray, List.set_cons_zero, List.set_cons_succ]
            refine take_l (v := ?_) 10 rfl (by kernel_rfl) (by kernel_rfl) (by kernel_rfl) (fun _ _ _ h => h) (by rfl) hHeld (fun w hSw => ?_) ?_
            rotate_left
            · (try dsimp only at hSw); go_simp; try (with_reducible rfl)
            try simp only [Act.put, List.setIfInBounds_toArray, List.set_cons_zero, List.set_cons_succ]
            refine held_pair (vi := .slice X1 y1 z1) (vj := .slice X2 y2 z2) 7 11 rfl rfl (by kernel_rfl) (by kernel_rfl) (by kernel_rfl) rfl rfl (by decide) (fun d h h' => absurd (h.trans h'.symm) (by decide)) hHeld (by go_simp) (by go_simp) (by go_simp) (by go_simp) ?_
            try simp only [Act.put, List.setIfInBounds_toArray, List.set_cons_zero, List.set_cons_succ]
            refine wpAnyH_ready (rs := [12]) (by kernel_rfl) (by simp) ?_
            refine AllReadyH.cons (o := _) rfl (fun K hK => ?_) AllReadyH.nil
            go_simp
            go_at_call 22; refine (RC.out _ _ SMD.out (fun e he => by simp [he])).mono ?_; rintro e wR ⟨A', cp', G', hg', rfl, hh⟩; have hR := SMD.out.call hh; clear hh; have HG' := Lib.hid hg'; clear hg'; have SR := Lib.hid hR; clear hR
            go_wp2_with fail
            refine hK.out _ _ ((HCO.out _ _ SR.out (by simp)).2.1) (fun hHeld => ?_)
            clear hK K
            try simp only [Act.put, List.setIfInBounds_toArray, List.set_cons_zero, List.set_cons_succ]
            have mr1 : wR.cell? ⟨wb, t, none⟩ = some (.slice X1 y1 z1) := (SR.out.blk (b := wb) (t := 22) (c := cellsV es Dw) (by simp)).cell (v := es ⟨X1, y1, z1⟩) (cellsV_get (WL.out t _ HWT.out))
            have fr1 := (SR.out.blk (b := wb) (t := 22) (c := cellsV es Dw) (by simp)).free (i := t)
            have hSS := St.setV (enc := es) (N1 := G' ++ (Gs2.flatten ++ [OB, ⟨hb, 22, cellsV es Dh⟩])) (b := wb) (t := 22) (l := Dw) (N2 := RR ++ KB) t ⟨A', y1, cp'⟩ (by simpa only [List.append_assoc, List.cons_append, List.nil_append] using SR.out)
            have SS := Lib.hid hSS
            clear hSS SR SMD SM
            refine take_l (v := ?_) 13 rfl (by kernel_rfl) (by kernel_rfl) (by kernel_rfl) (fun _ _ _ h => h) (by rfl) hHeld (fun w hSw => ?_) ?_
            rotate_left
            · (try dsimp only at hSw); go_simp; try (with_reducible rfl)
            try simp only [Act.put, List.setIfInBounds_toArray, List.set_cons_zero, List.set_cons_succ]
            refine take_l (v := ?_) 14 rfl (by kernel_rfl) (by kernel_rfl) (by kernel_rfl) (fun _ _ _ h => h) (by rfl) hHeld (fun w hSw => ?_) ?_
            rotate_left
            · (try dsimp only at hSw); go_simp; try (with_reducible rfl)
            try simp only [Act.put, List.setIfInBounds_toArray, List.set_cons_zero, List.set_cons_succ]
            refine take_l (v := ?_) 15 rfl (by kernel_rfl) (by kernel_rfl) (by kernel_rfl) (fun _ _ _ h => h) (by rfl) hHeld (fun w hSw => ?_) ?_
            rotate_left
            · (try dsimp only at hSw); go_simp; try (with_reducible rfl)
            try simp only [Act.put, List.setIfInBounds_toArray, List.set_cons_zero, List.set_cons_succ]
            refine take_l (v := ?_) 16 rfl (by kernel_rfl) (by kernel_rfl) (by kernel_rfl) (fun _ _ _ h => h) (by rfl) hHeld (fun w hSw => ?_) ?_
            rotate_left
            · (try dsimp only at hSw); go_simp; try (with_reducible rfl)
            try simp only [Act.put, List.setIfInBounds_toArray, List.set_cons_zero, List.set_cons_succ]
            refine wpAnyH_ready (rs := [17]) (by kernel_rfl) (by simp) ?_
            refine AllReadyH.cons (o := _) rfl (fun K hK => ?_) AllReadyH.nil
            go_simp
            refine hK.out _ _ (HCO.out _ _ SS.out (by simp)).2.1 (fun hHeld2 => ?_)
            clear hK K
            try simp only [Act.put, List.setIfInBounds_toArray, List.set_cons_zero, List.set_cons_succ]
            refine take_l (v := ?_) 18 rfl (by kernel_rfl) (by kernel_rfl) (by kernel_rfl) (fun _ _ _ h => h) (by rfl) hHeld2 (fun w hSw => ?_) ?_
            rotate_left
            · (try dsimp only at hSw); go_simp; try (with_reducible rfl)
            try simp only [Act.put, List.setIfInBounds_toArray, List.set_cons_zero, List.set_cons_succ]
            refine wpAnyH_done (by kernel_rfl) ?_ _
            clear mr1 fr1 oc1 mw1 mw2 hHeld hHeld2 RC
            obtain ⟨wS, hwS⟩ : ∃ wS, wS = wR.setCell ⟨wb, t, none⟩ (es ⟨A', y1, cp'⟩) := ⟨_, rfl⟩
            have HDT2 : Hid ((Dw.set t ⟨A', y1, cp'⟩).take n = dw.set t ⟨A', y1, cp'⟩) := Lib.hid (by rw [List.take_set, HT2.out])
            have HDW2 : Hid ((dw.set t ⟨A', y1, cp'⟩).length = n) := Lib.hid (by rw [List.length_set, HDW.out])
            have HLV2 : Hid ((lv.set t R).length = n) := Lib.hid (by rw [List.length_set, HLV.out])
            have HW2 : Hid (Wnt (dw.set t ⟨A', y1, cp'⟩) (lv.set t R) (G' ++ RR)) := Lib.hid (HW.out.set (by rw [HDW.out]; exact htn) (by rw [HLV.out]; exact htn) (by rw [HRL2.out, hnt.out]) (Grow.hold HG'.out.toV))
            obtain ⟨NF, hNF⟩ : ∃ NF : List Ent, Hid (NF = Gs2.flatten ++ ([⟨hb, 22, cellsV es Dh⟩] ++ ([⟨wb, 22, cellsV es (Dw.set t ⟨A', y1, cp'⟩)⟩] ++ ((G' ++ RR) ++ KB)))) := ⟨_, Lib.hid rfl⟩
            have SF : Hid (St w wS [] NF) := Lib.hid (by
              rw [hNF.out, hwS]
              have h1 := SS.out.perm (N' := [OB] ++ (Gs2.flatten ++ ([⟨hb, 22, cellsV es Dh⟩] ++ ([⟨wb, 22, cellsV es (Dw.set t ⟨A', y1, cp'⟩)⟩] ++ ((G' ++ RR) ++ KB))))) (by classical exact List.perm_iff_count.2 fun a => by simp only [List.nil_append, List.cons_append, List.count_append, List.count_cons, List.count_nil]; omega)
              exact h1.drop (List.sublist_append_right _ _))
            have HGE2 : Hid (∀ (wq : World), St w wq [] NF → ∀ (k : Nat) (d : Sd), dh[k]? = some d → wq.cell? ⟨hb, k, none⟩ = some (es d)) := Lib.hid (fun wq hs k d hd => HGE.out wq _ hs (by rw [hNF.out]; simp) k d hd)
            have HWE2 : Hid (∀ (wq : World), St w wq [] NF → ∀ (k : Nat) (d : Sd), (dw.set t ⟨A', y1, cp'⟩)[k]? = some d → wq.cell? ⟨wb, k, none⟩ = some (es d)) := Lib.hid (fun wq hs k d hd => (hs.blk (b := wb) (t := 22) (c := cellsV es (Dw.set t ⟨A', y1, cp'⟩)) (by rw [hNF.out]; simp)).cell (cellsV_get (by
              rw [← HDT2.out, List.getElem?_take] at hd
              split at hd
              · exact hd
              · cases hd)))
            have HRD2 : Hid (∀ (wq : World), St w wq [] NF → ∀ (k : Nat) (d : Sd), (dw.set t ⟨A', y1, cp'⟩)[k]? = some d → d.n = ((lv.set t R).getD k []).length ∧ Rd wq d.A ((lv.set t R).getD k [])) := Lib.hid (fun wq hs k d hd => by
              obtain ⟨q1, q2⟩ := HW2.out k d hd
              exact ⟨q1, hold_rd q2 hs (fun e he => by rw [hNF.out]; simp only [List.mem_append] at he ⊢; exact .inr (.inr (.inr (.inl he))))⟩)
            have HRH2 : Hid (∀ (wq : World), St w wq [] NF → ∀ (k : Nat), k < n → ∃ b l, dh[k]? = some ⟨some ⟨b, 0, none⟩, l.length, l.length⟩ ∧ (lv.set t R)[k]? = some l ∧ Rd wq (some ⟨b, 0, none⟩) l) := Lib.hid (fun wq hs k hk => by
              obtain ⟨G, _, ⟨b, l, q1, q2, rfl⟩, hm⟩ := HF2.out.get hk
              exact ⟨b, l, q1, q2, hs.rd (t := 5) (by rw [hNF.out]; exact List.mem_append_left _ (hm _ (List.mem_singleton.2 rfl)))⟩)
            rw [show wR.setCell ⟨wb, t, none⟩ (Value.slice A' y1 cp') = wS from hwS.symm]
            clear SS hwS
            go_wp2_with fail
            go_loopw [132] (fun vj wq => ∃ j : Nat, j ≤ n ∧ vj = .int .i64 j ∧ St w wq [] NF) (fun vj _ => n - (intOf vj).toNat)
            case atStart => exact ⟨0, by omega, rfl, SF.out⟩
            case round =>
              clear SF
              obtain ⟨j, hj, rfl, hs⟩ := hrel
              have S20 := Lib.hid hs; clear hs
              by_cases hjn : j < n
              · obtain ⟨b, lj, hdj, hlj, _⟩ := HRH2.out _ S20.out j hjn
                obtain ⟨⟨X, y, z⟩, hx⟩ := get_ds HDW2.out hjn
                obtain ⟨hn2, _⟩ := HRD2.out _ S20.out j _ hx
                have hlg : (lv.set t R).getD j [] = lj := by rw [List.getD_eq_getElem?_getD, hlj]; rfl
                rw [hlg] at hn2
                simp only at hn2
                have hbj := (lb_get HLB3.out hlj).2
                rw [← hn2] at hdj hbj
                have hby : y ≤ 281474976710656 := by omega
                have HY := Lib.hid hn2.symm
                have HDJ := Lib.hid hdj; have HXJ := Lib.hid hx; have HLJ := Lib.hid hlj; have HLG := Lib.hid hlg
                clear hn2 hdj hx hlj hlg hbj
                have RDJ : Hid (∀ wq : World, St w wq [] NF → Rd wq (some ⟨b, 0, none⟩) lj ∧ Rd wq X lj) := Lib.hid (fun wq hs => by
                  obtain ⟨b', l', q1, q2, q3⟩ := HRH2.out wq hs j hjn
                  rw [HDJ.out] at q1; injection q1 with q1; injection q1 with e1 _ _; injection e1 with e1; injection e1 with e1 _ _
                  rw [HLJ.out] at q2; injection q2 with q2
                  subst e1 q2
                  have h2 := (HRD2.out wq hs j _ HXJ.out).2
                  rw [HLG.out] at h2
                  exact ⟨q3, h2⟩)
                have HCC : Hid (∀ wq : World, St w wq [] NF → wq.cell? ⟨hb, j, none⟩ = some (.slice (some ⟨b, 0, none⟩) y y) ∧ wq.cell? ⟨wb, j, none⟩ = some (.slice X y z)) := Lib.hid (fun wq hs => ⟨HGE2.out wq hs j _ HDJ.out, HWE2.out wq hs j _ HXJ.out⟩)
                have j1 : (j : Int) < (n : Int) := by omega
                have j0 : (0 : Int) ≤ (j : Int) := by omega
                have m1 := (HCC.out _ S20.out).1
                have m2 := (HCC.out _ S20.out).2
                go_wp2_with fail
                have S21 := Lib.hid S20.out.drew; clear S20
                go_region_held3 (fun w' => w'.cell? ⟨hb, j, none⟩ = some (.slice (some ⟨b, 0, none⟩) y y) ∧ w'.cell? ⟨wb, j, none⟩ = some (.slice X y z)) (first | exact HCC.out _ S22.out | exact HCC.out _ S21.out) (first
                  | (go_at_call 14; refine (equal_st HY.out hby (RDJ.out _ S21.out).1 (RDJ.out _ S21.out).2).mono ?_; rintro e w22 ⟨rfl, hh⟩; have h22 := S21.out.call hh; clear hh S21; (try simp only [List.nil_append, List.cons_append, List.append_eq, Int.toNat_natCast] at h22); have S22 := Lib.hid h22; clear h22))
                clear m1 m2
                go_wp2_with fail
                refine ⟨⟨j + 1, by omega, by simp, S22.out⟩, ?_⟩
                simp [intOf]; omega
              · obtain rfl : j = n := by omega
                go_wp2_with fail
                have hfin := S20.out
                rw [hNF.out] at hfin
                first
                  | (refine ⟨⟨i + 1, lv.set t R, Dw.set t ⟨A', y1, cp'⟩, dw.set t ⟨A', y1, cp'⟩, G' ++ RR, Gs2, by omega, by simp, HLB3.out, HLV2.out, HDT2.out, HDW2.out, HF2.out, HW2.out, hfin⟩, ?_⟩; simp [intOf]; omega)
                  | (refine ⟨?_, ?_⟩
                     · repeat apply Exists.intro
                       refine ⟨?_, rfl⟩
                       exact ⟨i + 1, lv.set t R, Dw.set t ⟨A', y1, cp'⟩, dw.set t ⟨A', y1, cp'⟩, G' ++ RR, Gs2, by omega, by go_num, HLB3.out, HLV2.out, HDT2.out, HDW2.out, HF2.out, HW2.out, hfin⟩
                     · simp [intOf]; omega)
        · go_wp2_with fail
          go_ret
          exact ⟨rfl, S6.out.below⟩

end Go.Proofs.Ythfenafhdigniaa.L6
