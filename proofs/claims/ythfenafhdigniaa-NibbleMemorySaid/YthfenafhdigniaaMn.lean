/- The law NibbleMemory of layer 6: its walk. -/
import Derived.Test.YthfenafhdigniaaN6
import Derived.Test.YthfenafhdigniaaAk
namespace Go.Proofs.Ythfenafhdigniaa.L6
set_option linter.unusedSimpArgs false
set_option linter.unusedVariables false
open Go Go.RowKit Go.Proofs.Ythfenafhdigniaa Go.Proofs.Ythfenafhdigniaa.Mm Go.Proofs.Ythfenafhdigniaa.Gf Go.Proofs.Ythfenafhdigniaa.Wr Go.Proofs.Ythfenafhdigniaa.Nb Go.Proofs.Ythfenafhdigniaa.St

theorem info_sl2 : (Try.prog.info? 22).map (fun i => (i.zero, i.size, i.bytes)) = some (some (es ⟨none, 0, 0⟩), 1, 24) := by kernel_rfl
theorem info_b2 : (Try.prog.info? 5).map (fun i => (i.zero, i.size, i.bytes)) = some (some (e8 0), 1, 1) := by kernel_rfl

theorem Halves_two (c : Nat) (w : World) (hc : c < 256) : Calls Try.prog 18 #[.int .u8 c] w fun e w' => ∃ v1 v2 G1 G2, e = .returned (.tuple #[v1, v2]) ∧ GrowB v1 (lowL c) G1 ∧ GrowB v2 (highL c) G2 ∧ St w w' [] (G2 ++ G1) :=
  (Halves_st c w hc).mono fun _ _ ⟨v1, v2, G1, G2, he, hs, hg1, hg2⟩ => ⟨v1, v2, G1, G2, he, hg1, hg2, hs⟩
/-- What is written into list k. -/
def mk (k : Nat) : List Nat := (List.range 16).map fun p => (16 * k + p) % 256
theorem mk_length (k : Nat) : (mk k).length = 16 := by simp [mk]
theorem mk_get {k p : Nat} (h : p < 16) : (mk k)[p]? = some ((16 * k + p) % 256) := by simp [mk, h]
theorem eq_mk {k : Nat} {l : List Nat} (hl : l.length = 16) (h : ∀ p, p < 16 → l[p]? = (mk k)[p]?) : l = mk k := by
  apply List.ext_getElem?
  intro p
  by_cases hp : p < 16
  · exact h p hp
  · rw [List.getElem?_eq_none (by omega), List.getElem?_eq_none (by rw [mk_length]; omega)]

/-- The lists before they are written, while list i is written up to j. -/
abbrev nw (i j k : Nat) (l : List Nat) : Prop := l.length = 16 ∧ (k < i → l = mk k) ∧ (k = i → ∀ p, p < j → l[p]? = (mk k)[p]?)
abbrev nt (k : Nat) (l m : List Nat) : Prop := l = mk k ∧ m = mk k ++ List.replicate 40 (255 - k)
theorem rep_succ (j x : Nat) : List.replicate (j + 1) x = List.replicate j x ++ [x] := List.replicate_succ'

set_option maxRecDepth 100000 in
set_option maxHeartbeats 4000000 in
theorem memory_walk (c d : Nat) (A : Option Addr) (n cp : Nat) (l : List Nat) (w : World) (hc : c < 256) (hd : d < 256) (h : (Kk.kSlice Kk.kByte 1).ok w.heap.size w [.slice A n cp] l) :
    Calls Try.prog 5 #[.int .u8 c, .int .u8 d, .slice A n cp] w fun e w' => e = .returned (.bool true) ∧ Below w.heap.size w w' := by
  obtain ⟨hn, hn2, _, hr, h8, _⟩ := open_bytes h
  clear h
  have hn3 : n ≤ 281474976710656 := by omega
  have HN := Lib.hid hn; have HR := Lib.hid hr; have H8 := Lib.hid h8
  clear hn hr h8
  have S0 := Lib.hid (St.start w)
  go_enter Try.func5, Try.ntmps5
  go_wp2_with fail
  refine (fixed_st _).mono ?_
  rintro e w1 ⟨rfl, hh⟩
  have h1 := S0.out.call hh; clear hh S0
  try simp only [List.nil_append, List.cons_append, List.append_eq, Int.toNat_natCast] at h1
  have S1 := Lib.hid h1; clear h1
  go_wp2_with fail
  refine (new_st _).mono ?_
  rintro e w2 ⟨p, rfl, hh⟩
  have h2 := S1.out.call hh; clear hh S1
  try simp only [List.nil_append, List.cons_append, List.append_eq, Int.toNat_natCast] at h2
  have S2 := Lib.hid h2; clear h2
  go_wp2_with fail
  refine (times_st (by omega) (by omega) HN.out hn3 (S2.out.ext HR.out) H8.out).mono ?_
  rintro e w3 ⟨bb, rfl, hh⟩
  have h3 := S2.out.call hh; clear hh S2
  try simp only [List.nil_append, List.cons_append, List.append_eq, Int.toNat_natCast] at h3
  have S3 := Lib.hid h3; clear h3
  go_wp2_with fail
  go_loopw [9, 11] (fun v vi wr => ∃ (i : Nat) (ds : List Sd) (Gt : List Ent) (Gs : List (List Ent)), i ≤ 3 ∧ vi = .int .i64 i ∧ ds.length = 4 * i ∧ GrowV es 22 v ds Gt ∧ Fam (4 * i) (Own e8 5 ds (nw 0 0)) Gs ∧ St w wr [] (Gt ++ (Gs.flatten ++ [bt bb (l.map (gm c))]))) (fun _ vi _ => 3 - (intOf vi).toNat)
  case atStart => exact ⟨0, [], [], [], by omega, rfl, rfl, GrowV.nil, Fam.nil _, S3.out⟩
  case round =>
    clear S3
    obtain ⟨i, ds, Gt, Gs, hi, rfl, hdl, hgt, hfam, hs⟩ := hrel
    have S4 := Lib.hid hs; have HDL := Lib.hid hdl; have HGT := Lib.hid hgt; have HF := Lib.hid hfam; clear hs hdl hgt hfam
    by_cases hlt : i < 3
    · have k1 : (i : Int) < 3 := by omega
      go_wp2_with fail
      refine (Halves_two c _ hc).mono ?_
      rintro e w5 ⟨v1, v2, G1, G2, rfl, hg1, hg2, hh⟩
      have h5 := S4.out.call hh; clear hh S4
      try simp only [List.nil_append, List.cons_append, List.append_eq, Int.toNat_natCast] at h5
      obtain ⟨A1, c1, rfl⟩ := hg1.shape; obtain ⟨A2, c2, rfl⟩ := hg2.shape; rw [lowL_length] at hg1 ⊢; rw [highL_length] at hg2 ⊢; have HG1 := Lib.hid hg1; have HG2 := Lib.hid hg2; clear hg1 hg2
      have S5 := Lib.hid h5; clear h5
      go_wp2_with fail
      refine (Halves_two d _ hd).mono ?_
      rintro e w6 ⟨v3, v4, G3, G4, rfl, hg3, hg4, hh⟩
      have h6 := S5.out.call hh; clear hh S5
      try simp only [List.nil_append, List.cons_append, List.append_eq, Int.toNat_natCast] at h6
      obtain ⟨A3, c3, rfl⟩ := hg3.shape; obtain ⟨A4, c4, rfl⟩ := hg4.shape; rw [lowL_length] at hg3 ⊢; rw [highL_length] at hg4 ⊢; have HG3 := Lib.hid hg3; have HG4 := Lib.hid hg4; clear hg3 hg4
      have S6 := Lib.hid h6; clear h6
      have S7 : Hid (St w w6 [] (([G1, G2, G3, G4] : List (List Ent)).reverse.flatten ++ (Gt ++ (Gs.flatten ++ [bt bb (l.map (gm c))])))) := Lib.hid (by simpa using S6.out)
      go_wp2_with ((with_reducible refine at_slot (N := 55) rfl ?_); refine append_v (enc := es) (N := ([G1, G2, G3, G4] : List (List Ent)).reverse.flatten ++ (Gs.flatten ++ [bt bb (l.map (gm c))])) (G := Gt) rfl _ _ _ rfl ⟨none, 0, 0⟩ 24 Try.underlying38 info_sl2 rfl (fun _ => rfl) _ _ rfl ((S7.out.skip (t := 22) (c := cellsV es [⟨A1, 16, c1⟩, ⟨A2, 16, c2⟩, ⟨A3, 16, c3⟩, ⟨A4, 16, c4⟩])).perm (front_perm _ _ _)) HGT.out (some ⟨w6.heap.size, 0, none⟩) 4 4 [⟨A1, 16, c1⟩, ⟨A2, 16, c2⟩, ⟨A3, 16, c3⟩, ⟨A4, 16, c4⟩] rfl rfl (RdV.of_blk (Blk.new w6 _ _)) (by rw [HDL.out]; show (4 * i + 4) * 24 ≤ _; omega) (by rw [HDL.out]; show 4 * i + 4 ≤ _; unfold maxLen; omega) ?_; intro v' w8 Gt' h8 hg' hz; have HGT' := Lib.hid hg'; clear hg' hz HGT; (try simp only [World.size_alloc, List.nil_append, List.cons_append, List.append_eq] at h8); have S8 := Lib.hid h8; clear h8 S7)
      refine ⟨⟨i + 1, ds ++ [⟨A1, 16, c1⟩, ⟨A2, 16, c2⟩, ⟨A3, 16, c3⟩, ⟨A4, 16, c4⟩], Gt', Gs ++ [G1, G2, G3, G4], by omega, by simp, by simp [HDL.out]; omega, HGT'.out, ?_, S8.out.perm ((push_perm _ _ _).append_left _)⟩, ?_⟩
      · have hD := HDL.out
        refine Fam.append (HF.out.imp fun k G hk ⟨d, l, h1, h2, h3⟩ => ⟨d, l, by rw [List.getElem?_append_left (by omega)]; exact h1, h2, h3⟩) fun j G hj => ?_
        rcases j with _ | _ | _ | _ | j
        · simp at hj; subst hj; exact ⟨⟨A1, 16, c1⟩, lowL c, (get_app hD).trans rfl, ⟨lowL_length c, fun h => by omega, fun _ p hp => by omega⟩, by simpa [es, lowL_length] using HG1.out.toV⟩
        · simp at hj; subst hj; exact ⟨⟨A2, 16, c2⟩, highL c, (get_app hD).trans rfl, ⟨highL_length c, fun h => by omega, fun _ p hp => by omega⟩, by simpa [es, highL_length] using HG2.out.toV⟩
        · simp at hj; subst hj; exact ⟨⟨A3, 16, c3⟩, lowL d, (get_app hD).trans rfl, ⟨lowL_length d, fun h => by omega, fun _ p hp => by omega⟩, by simpa [es, lowL_length] using HG3.out.toV⟩
        · simp at hj; subst hj; exact ⟨⟨A4, 16, c4⟩, highL d, (get_app hD).trans rfl, ⟨highL_length d, fun h => by omega, fun _ p hp => by omega⟩, by simpa [es, highL_length] using HG4.out.toV⟩
        · simp at hj
      · simp [intOf]; omega
    · obtain rfl : i = 3 := by omega
      obtain ⟨At, ct, rfl⟩ := HGT.out.shape
      obtain ⟨kk, hkk⟩ : ∃ kk : Nat, Hid (4 * 3 = kk) := ⟨_, Lib.hid rfl⟩
      have HDL' : Hid (ds.length = kk) := Lib.hid (by rw [HDL.out, hkk.out])
      have hk12 : kk ≤ 12 := by have := hkk.out; omega
      rw [HDL'.out] at HGT ⊢
      rw [hkk.out] at HF
      clear HDL hkk hi hlt
      have RDS : Hid (∀ (w' : World) (W N : List Ent), St w w' W N → (∀ e ∈ Gt, e ∈ N) → RdV es w' At ds) := Lib.hid (fun w' W N hs hm => HGT.out.read hs hm)
      go_wp2_with fail
      go_loopw [58] (fun vi wr => ∃ (i : Nat) (Gs : List (List Ent)), i ≤ kk ∧ vi = .int .i64 i ∧ Fam kk (Own e8 5 ds (nw i 0)) Gs ∧ St w wr [] (Gs.flatten ++ (Gt ++ [bt bb (l.map (gm c))]))) (fun vi _ => kk - (intOf vi).toNat)
      case atStart => exact ⟨0, Gs, by omega, rfl, HF.out, S4.out.perm (front_perm _ _ _)⟩
      case round =>
        clear S4 HF
        obtain ⟨i, Gs, hi, rfl, hfam, hs⟩ := hrel
        have S5 := Lib.hid hs; have HF := Lib.hid hfam; clear hs hfam
        have RD := RDS.out wr [] _ S5.out (fun e he => by simp [he])
        by_cases hlt : i < kk
        · obtain ⟨⟨dA, dn, dc⟩, hd⟩ := get_ds HDL'.out hlt
          obtain ⟨bt', ot, eA, kA⟩ := RD (by rw [HDL'.out]; omega)
          have m1 := kA i _ hd
          have hdn : dn = 16 := by
            obtain ⟨G, _, ⟨d', l', h1, h2, h3⟩, _⟩ := HF.out.get hlt
            rw [hd] at h1; injection h1 with h1; subst h1
            have := h3.len; simp only at this; rw [this]; exact h2.1
          subst hdn
          subst eA
          simp only [es] at m1
          have HD1 := Lib.hid hd
          clear kA RD hd
          have i1 : (i : Int) < (kk : Int) := by omega
          go_wp2_with fail
          go_loopw [68] (fun vj wq => ∃ (j : Nat) (Gs : List (List Ent)), j ≤ 16 ∧ vj = .int .i64 j ∧ Fam kk (Own e8 5 ds (nw i j)) Gs ∧ St w wq [] (Gs.flatten ++ (Gt ++ [bt bb (l.map (gm c))]))) (fun vj _ => 16 - (intOf vj).toNat)
          case atStart => exact ⟨0, Gs, by omega, rfl, HF.out.imp (fun k G _ ⟨d, l, h1, h2, h3⟩ => ⟨d, l, h1, ⟨h2.1, h2.2.1, fun _ p hp => by omega⟩, h3⟩), S5.out⟩
          case round =>
            clear S5 HF m1
            obtain ⟨j, Gs, hj, rfl, hfam, hs⟩ := hrel
            have S6 := Lib.hid hs; have HF := Lib.hid hfam; clear hs hfam
            by_cases hjt : j < 16
            · obtain ⟨G, R, ⟨d', l', h1, ⟨hl, hp1, hp2⟩, hg⟩, hs, hback⟩ := HF.out.focus S6.out hlt
              rw [HD1.out] at h1; injection h1 with h1; subst h1
              obtain ⟨b, hA, f1, ⟨x, hx, m2⟩, hset⟩ := hg.at hs (j := j) (by omega)
              simp only at hA
              subst hA
              obtain ⟨y, hy⟩ : ∃ y, Hid ((16 * i + j) % 256 = y) := ⟨_, Lib.hid rfl⟩
              have NEXT : Hid (∃ Gs', Fam kk (Own e8 5 ds (nw i (j + 1))) Gs' ∧ St w (wr.setCell ⟨b, j, none⟩ (e8 y)) [] (Gs'.flatten ++ (Gt ++ [bt bb (l.map (gm c))]))) := Lib.hid (by
                obtain ⟨G', hg', hs'⟩ := hset y
                refine hback _ G' _ _ hs' ⟨_, l'.set j y, HD1.out, ⟨by simp [hl], fun h => absurd h (by omega), fun _ p hp => ?_⟩, hg'⟩ (fun k G hk _ ⟨d, l, h1, h2, h3⟩ => ⟨d, l, h1, ⟨h2.1, h2.2.1, fun e => absurd e hk⟩, h3⟩)
                by_cases hpj : j = p
                · subst hpj
                  rw [List.getElem?_set_self (by omega), mk_get (by omega), hy.out]
                · rw [List.getElem?_set_ne hpj]
                  exact hp2 rfl p (by omega))
              have j1 : (j : Int) < 16 := by omega
              have t1 : (16 * (i : Int) + (j : Int)) % 256 = (y : Int) := by rw [← hy.out]; omega
              have t2 : IntKind.u8.wrap (16 * (i : Int) + (j : Int)) = (y : Int) := t1
              clear hset hback hs hg hp1 hp2 hl hx HF
              go_wp2_with fail
              clear t1 t2 m2 f1
              obtain ⟨Gs', hF', hS'⟩ := NEXT.out
              refine ⟨⟨j + 1, Gs', by omega, by simp, hF', hS'⟩, ?_⟩
              simp [intOf]; omega
            · obtain rfl : j = 16 := by omega
              go_wp2_with fail
              refine ⟨⟨i + 1, Gs, by omega, by simp, HF.out.imp (fun k G _ ⟨d, l, h1, h2, h3⟩ => ⟨d, l, h1, ⟨h2.1, fun h => ?_, fun _ p hp => by omega⟩, h3⟩), S6.out⟩, ?_⟩
              · by_cases hk : k < i
                · exact h2.2.1 hk
                · exact eq_mk h2.1 (h2.2.2 (by omega))
              · simp [intOf]; omega
        · obtain rfl : i = kk := by omega
          have HF1 : Hid (Fam i (fun k G => (k < 0 → Pair2 e8 ds [] nt k G) ∧ (0 ≤ k → Own e8 5 ds (fun k l => l = mk k) k G)) Gs) := Lib.hid (HF.out.imp fun k G hk ⟨d, l, h1, h2, h3⟩ => ⟨fun h => by omega, fun _ => ⟨d, l, h1, h2.2.1 hk, h3⟩⟩)
          clear HF hlt hi RD
          obtain ⟨kk, rfl⟩ : ∃ kk, kk = i := ⟨_, rfl⟩
          go_wp2_with fail
          go_loopw [10, 83] (fun vt vi wr => ∃ (i : Nat) (ts : List Sd) (Gt2 : List Ent) (Gs : List (List Ent)), i ≤ kk ∧ vi = .int .i64 i ∧ ts.length = i ∧ GrowV es 22 vt ts Gt2 ∧ Fam kk (fun k G => (k < i → Pair2 e8 ds ts nt k G) ∧ (i ≤ k → Own e8 5 ds (fun k l => l = mk k) k G)) Gs ∧ St w wr [] (Gs.flatten ++ (Gt2 ++ (Gt ++ [bt bb (l.map (gm c))])))) (fun _ vi _ => kk - (intOf vi).toNat)
          case atStart => exact ⟨0, [], [], Gs, by omega, rfl, rfl, GrowV.nil, HF1.out, S5.out⟩
          case round =>
            clear S5 HF1
            obtain ⟨i, ts, Gt2, Gs, hi, rfl, htl, hgt, hfam, hs⟩ := hrel
            have S7 := Lib.hid hs; have HF := Lib.hid hfam; have HT := Lib.hid hgt; have HTL := Lib.hid htl; clear hs hfam hgt htl
            have RD := RDS.out _ [] _ S7.out (fun e he => by simp [he])
            by_cases hlt : i < kk
            · obtain ⟨⟨dA, dn, dc⟩, hd⟩ := get_ds HDL'.out hlt
              obtain ⟨bt', ot, eA, kA⟩ := RD (by rw [HDL'.out]; omega)
              have m1 := kA i _ hd
              obtain ⟨G, R, hP, hs, hback⟩ := HF.out.focus S7.out hlt
              obtain ⟨d', l', h1, h2, hg⟩ := hP.2 (Nat.le_refl _)
              rw [hd] at h1; injection h1 with h1; subst h1
              subst h2
              have hdn : dn = 16 := by have := hg.len; simp only at this; rw [this, mk_length]
              subst hdn
              subst eA
              simp only [es] at m1
              obtain ⟨x, hx⟩ : ∃ x, Hid (255 - i = x) := ⟨_, Lib.hid rfl⟩
              have HX : Hid (x = 255 - i ∧ x < 256) := Lib.hid ⟨hx.out.symm, by have := hx.out; omega⟩
              have HD1 := Lib.hid hd
              have HG0 := Lib.hid hg; have HB := Lib.hid hback
              have S8 := Lib.hid hs
              have i1 : (i : Int) < (kk : Int) := by omega
              clear kA RD hd hP hg hback hs HF S7
              go_wp2_with fail
              go_loopw [20, 21] (fun v vj wq => ∃ (j : Nat) (Gg K : List Ent), j ≤ 40 ∧ vj = .int .i64 j ∧ GrowV e8 5 v (mk i ++ List.replicate j x) Gg ∧ Hold dA ((mk i).map e8) (Gg ++ K) ∧ St w wq [] (Gg ++ (K ++ (R ++ (Gt2 ++ (Gt ++ [bt bb (l.map (gm c))])))))) (fun _ vj _ => 40 - (intOf vj).toNat)
              case atStart =>
                have hh := HG0.out
                exact ⟨0, G, [], by omega, rfl, by simpa using hh, by rw [List.append_nil]; exact Grow.hold hh, S8.out⟩
              case round =>
                clear S8 HG0 m1
                obtain ⟨j, Gg, K, hj, rfl, hg, hh, hs⟩ := hrel
                have S9 := Lib.hid hs; have HG := Lib.hid hg; have HH := Lib.hid hh; clear hs hg hh
                have HLn : Hid ((mk i ++ List.replicate j x).length = 16 + j) := Lib.hid (by rw [List.length_append, mk_length, List.length_replicate])
                by_cases hjt : j < 40
                · have j1 : (j : Int) < 40 := by omega
                  have t1 : (255 - (i : Int)) % 256 = (x : Int) := by have := HX.out; omega
                  have t2 : IntKind.u8.wrap (255 - (i : Int)) = (x : Int) := t1
                  go_wp2_with ((with_reducible refine at_slot (N := 97) rfl ?_); refine append_keep (enc := e8) (N := K ++ (R ++ (Gt2 ++ (Gt ++ [bt bb (l.map (gm c))])))) (G := Gg) rfl _ _ _ rfl 0 1 Try.underlying22 info_b2 rfl (fun _ => rfl) _ _ rfl (S9.out.skip (t := 5) (c := cellsV e8 [x])) HG.out (some ⟨wr.heap.size, 0, none⟩) 1 1 [x] rfl rfl (RdV.of_blk (Blk.new wr _ _)) (by rw [HLn.out]; show (16 + j + 1) * 1 ≤ _; omega) (by rw [HLn.out]; show 16 + j + 1 ≤ _; unfold maxLen; omega) ?_; intro v' w10 G' K' h10 hg' hk'; have HG' := Lib.hid hg'; have HK' := Lib.hid hk'; clear hg' hk' HG t1 t2; (try simp only [World.size_alloc, List.nil_append, List.cons_append, List.append_eq] at h10); have S10 := Lib.hid h10; clear h10 S9)
                  refine ⟨?_, ?_⟩
                  · repeat apply Exists.intro
                    refine ⟨?_, rfl⟩
                    exact ⟨j + 1, G', K' ++ K, by omega, by go_num, by rw [rep_succ, ← List.append_assoc]; exact HG'.out, HH.out.step (HK'.out _ _ (by rw [List.length_map, mk_length, HLn.out]; omega)), by rw [List.append_assoc]; exact S10.out⟩
                  · simp [intOf]; omega
                · obtain rfl : j = 40 := by omega
                  obtain ⟨A2, c2, rfl⟩ := HG.out.shape
                  rw [HLn.out] at HG ⊢
                  have S10 : Hid (St w wr [] (((Gg ++ K) ++ R) ++ (Gt2 ++ (Gt ++ [bt bb (l.map (gm c))])))) := Lib.hid (by simpa only [List.append_assoc] using S9.out)
                  go_wp2_with ((with_reducible refine at_slot (N := 101) rfl ?_); refine append_v (enc := es) (N := ((Gg ++ K) ++ R) ++ (Gt ++ [bt bb (l.map (gm c))])) (G := Gt2) rfl _ _ _ rfl ⟨none, 0, 0⟩ 24 Try.underlying38 info_sl2 rfl (fun _ => rfl) _ _ rfl ((S10.out.skip (t := 22) (c := cellsV es [⟨A2, 16 + 40, c2⟩])).perm (front_perm _ _ _)) HT.out (some ⟨wr.heap.size, 0, none⟩) 1 1 [⟨A2, 16 + 40, c2⟩] rfl rfl (RdV.of_blk (Blk.new wr _ _)) (by rw [HTL.out]; show (i + 1) * 24 ≤ _; omega) (by rw [HTL.out]; show i + 1 ≤ _; unfold maxLen; omega) ?_; intro v' w11 Gt2' h11 hg' hz; have HT' := Lib.hid hg'; clear hg' hz HT; (try simp only [World.size_alloc, List.nil_append, List.cons_append, List.append_eq] at h11); have S11 := Lib.hid h11; clear h11 S10)
                  have hS := S11.out.perm (front_perm _ _ _)
                  rw [List.append_assoc (Gg ++ K) R] at hS
                  have htl := HTL.out
                  obtain ⟨Gs', hF', hS'⟩ := HB.out _ (Gg ++ K) _ (fun k G => (k < i + 1 → Pair2 e8 ds (ts ++ [⟨A2, 16 + 40, c2⟩]) nt k G) ∧ (i + 1 ≤ k → Own e8 5 ds (fun k l => l = mk k) k G)) hS ⟨fun _ => ⟨_, ⟨A2, 16 + 40, c2⟩, mk i, mk i ++ List.replicate 40 x, HD1.out, by rw [List.getElem?_append_right (by omega), htl]; simp, ⟨rfl, by rw [HX.out.1]⟩, (mk_length i).symm, by rw [HLn.out], HH.out, (Grow.hold HG.out).mono fun e he => by simp [he]⟩, fun h => by omega⟩ (fun k G hk _ h => ⟨fun hlt => by
                    obtain ⟨d, t, l, m, q1, q2, q3⟩ := h.1 (by omega)
                    exact ⟨d, t, l, m, q1, by rw [List.getElem?_append_left (by omega)]; exact q2, q3⟩, fun hle => h.2 (by omega)⟩)
                  refine ⟨?_, ?_⟩
                  · repeat apply Exists.intro
                    refine ⟨?_, rfl⟩
                    exact ⟨i + 1, _, Gt2', Gs', by omega, by go_num, by simp [htl], HT'.out, hF', hS'⟩
                  · simp [intOf]; omega
            · obtain rfl : i = kk := by omega
              have HF1 : Hid (Fam i (Pair2 e8 ds ts nt) Gs) := Lib.hid (HF.out.imp fun k G hk h => h.1 hk)
              obtain ⟨A3, c3, rfl⟩ := HT.out.shape
              rw [HTL.out] at HT ⊢
              have RTS : Hid (∀ (w' : World) (W N : List Ent), St w w' W N → (∀ e ∈ Gt2, e ∈ N) → RdV es w' A3 ts) := Lib.hid (fun w' W N hs hm => HT.out.read hs hm)
              clear HF hlt hi RD
              obtain ⟨kk, rfl⟩ : ∃ kk, kk = i := ⟨_, rfl⟩
              go_wp2_with fail
              go_loopw [105] (fun vi wr => ∃ (i : Nat), i ≤ kk ∧ vi = .int .i64 i ∧ St w wr [] (Gs.flatten ++ (Gt2 ++ (Gt ++ [bt bb (l.map (gm c))])))) (fun vi _ => kk - (intOf vi).toNat)
              case atStart => exact ⟨0, by omega, rfl, S7.out⟩
              case round =>
                clear S7
                obtain ⟨i, hi, rfl, hs⟩ := hrel
                have S8 := Lib.hid hs; clear hs
                have RD := RDS.out _ [] _ S8.out (fun e he => by simp [he])
                have RT := RTS.out _ [] _ S8.out (fun e he => by simp [he])
                by_cases hlt : i < kk
                · obtain ⟨G, _, ⟨⟨dA, dn, dc⟩, ⟨tA, tn, tc⟩, l1, l2, hd, ht, ⟨rfl, rfl⟩, hdn, htn, hh1, hh2⟩, hmG⟩ := HF1.out.get hlt
                  rw [mk_length] at hdn
                  rw [List.length_append, mk_length, List.length_replicate] at htn
                  simp only at hdn htn
                  subst hdn htn
                  obtain ⟨bt', ot, eA, kA⟩ := RD (by rw [HDL'.out]; omega)
                  obtain ⟨bt2, ot2, eA2, kA2⟩ := RT (by rw [HTL.out]; omega)
                  subst eA eA2
                  have m1 := kA i _ hd
                  simp only [es] at m1
                  have HM2 : Hid (∀ wq : World, St w wq [] (Gs.flatten ++ (Gt2 ++ (Gt ++ [bt bb (l.map (gm c))]))) → wq.cell? ⟨bt2, ot2 + i, none⟩ = some (.slice tA (16 + 40) tc)) := Lib.hid (fun wq hs => by
                    obtain ⟨b', o', e', k'⟩ := RTS.out _ [] _ hs (fun e he => by simp [he]) (by rw [HTL.out]; omega)
                    injection e' with e'; injection e' with e1 e2 _; subst e1 e2
                    exact k' i _ ht)
                  have HH1 := Lib.hid hh1; have HH2 := Lib.hid hh2
                  have HMG : Hid (∀ e ∈ G, e ∈ (Gs.flatten ++ (Gt2 ++ (Gt ++ [bt bb (l.map (gm c))])))) := Lib.hid (fun e he => by simp [hmG e he])
                  have i1 : (i : Int) < (kk : Int) := by omega
                  clear kA kA2 RD RT hd ht hh1 hh2 hmG
                  go_wp2_with fail
                  go_loopw [112] (fun vj wq => ∃ (j : Nat), j ≤ 16 ∧ vj = .int .i64 j ∧ St w wq [] (Gs.flatten ++ (Gt2 ++ (Gt ++ [bt bb (l.map (gm c))])))) (fun vj _ => 16 - (intOf vj).toNat)
                  case atStart => exact ⟨0, by omega, rfl, S8.out⟩
                  case round =>
                    clear S8 m1
                    obtain ⟨j, hj, rfl, hs⟩ := hrel
                    have S9 := Lib.hid hs; clear hs
                    by_cases hjt : j < 16
                    · obtain ⟨y, hy⟩ : ∃ y, Hid ((16 * i + j) % 256 = y) := ⟨_, Lib.hid rfl⟩
                      obtain ⟨b, eB, m2⟩ := HH1.out.cell (j := j) (u := e8 y) S9.out HMG.out (by rw [List.getElem?_map, mk_get hjt, hy.out]; rfl)
                      subst eB
                      have t1 : (16 * (i : Int) + (j : Int)) % 256 = (y : Int) := by rw [← hy.out]; omega
                      have t2 : IntKind.u8.wrap (16 * (i : Int) + (j : Int)) = (y : Int) := t1
                      have j1 : (j : Int) < 16 := by omega
                      go_wp2_with fail
                      clear t1 t2 m2
                      refine ⟨⟨j + 1, by omega, by simp, S9.out⟩, ?_⟩
                      simp [intOf]; omega
                    · obtain rfl : j = 16 := by omega
                      clear hjt hj
                      go_wp2_with fail
                      go_loopw [25] (fun vj wq => ∃ (j : Nat), j ≤ 40 ∧ vj = .int .i64 j ∧ St w wq [] (Gs.flatten ++ (Gt2 ++ (Gt ++ [bt bb (l.map (gm c))])))) (fun vj _ => 40 - (intOf vj).toNat)
                      case atStart => exact ⟨0, by omega, rfl, S9.out⟩
                      case round =>
                        clear S9
                        obtain ⟨j, hj, rfl, hs⟩ := hrel
                        have S10 := Lib.hid hs; clear hs
                        by_cases hjt : j < 40
                        · obtain ⟨x, hx⟩ : ∃ x, Hid (255 - i = x) := ⟨_, Lib.hid rfl⟩
                          obtain ⟨b, eB, m2⟩ := HH2.out.cell (j := 16 + j) (u := e8 x) S10.out HMG.out (by
                            rw [List.getElem?_map, List.getElem?_append_right (by rw [mk_length]; omega), mk_length, hx.out]
                            rw [List.getElem?_replicate, if_pos (by omega)]; rfl)
                          subst eB
                          have m3 := HM2.out _ S10.out
                          have t1 : (255 - (i : Int)) % 256 = (x : Int) := by rw [← hx.out]; omega
                          have t2 : IntKind.u8.wrap (255 - (i : Int)) = (x : Int) := t1
                          have t3 : (16 + (j : Int)).toNat = 16 + j := by omega
                          have j1 : (j : Int) < 40 := by omega
                          have j2 : 16 + (j : Int) < 56 := by omega
                          go_wp2_with fail
                          clear t1 t2 t3 m2 m3
                          refine ⟨⟨j + 1, by omega, by simp, S10.out⟩, ?_⟩
                          simp [intOf]; omega
                        · obtain rfl : j = 40 := by omega
                          go_wp2_with fail
                          refine ⟨?_, ?_⟩
                          · repeat apply Exists.intro
                            refine ⟨?_, rfl⟩
                            exact ⟨i + 1, by omega, by go_num, S10.out⟩
                          · simp [intOf]; omega
                · have S20 : Hid (St w wr [] [bt bb (l.map (gm c))]) := Lib.hid (S8.out.drop ((List.sublist_append_right Gt _).trans ((List.sublist_append_right Gt2 _).trans (List.sublist_append_right _ _))))
                  clear S8 RD RT HF1 RTS RDS HT HGT HDL' HTL
                  have HLM : Hid ((l.map (gm c)).length = n) := Lib.hid (by rw [List.length_map, HN.out])
                  go_wp2_with fail
                  refine (Halves_two c _ hc).mono ?_
                  rintro e w21 ⟨v5, v6, G5, G6, rfl, hg5, hg6, hh⟩
                  have h21 := S20.out.call hh; clear hh S20
                  try simp only [List.nil_append, List.cons_append, List.append_eq, Int.toNat_natCast] at h21
                  obtain ⟨b5, D5, rfl, p5, q5, rfl⟩ := GrowB.full hg5 (by rw [lowL_length]; decide); obtain ⟨b6, D6, rfl, p6, q6, rfl⟩ := GrowB.full hg6 (by rw [highL_length]; decide); rw [lowL_length] at p5 q5 ⊢; rw [highL_length] at p6 q6 ⊢; simp only [List.nil_append, List.cons_append] at h21; have Q5 := Lib.hid q5; have Q6 := Lib.hid q6; clear hg5 hg6 q5 q6
                  have S21 := Lib.hid h21; clear h21
                  have e1 := (S21.out.blk mem1).cellRow (i := 1) (by omega)
                  rw [getD_take Q5.out (by rw [lowL_length]; decide), lowL_get (by decide), gm_one hc] at e1
                  have e2 := (S21.out.blk mem0).cellRow (i := 0) (by omega)
                  rw [getD_take Q6.out (by rw [highL_length]; decide), highL_get (by decide), Nat.mul_zero, gm_zero_right] at e2
                  go_wp2_with fail
                  clear e1 e2
                  refine (times_st (by omega) (by omega) HN.out hn3 (S21.out.ext HR.out) H8.out).mono ?_
                  rintro e w22 ⟨b7, rfl, hh⟩
                  have h22 := S21.out.call hh; clear hh S21
                  try simp only [List.nil_append, List.cons_append, List.append_eq, Int.toNat_natCast] at h22
                  have S22 := Lib.hid h22; clear h22
                  go_wp2_with fail
                  refine (equal_st HLM.out hn3 (S22.out.rd mem3) (S22.out.rd mem0)).mono ?_
                  rintro e w23 ⟨rfl, hh⟩
                  have h23 := S22.out.call hh; clear hh S22
                  try simp only [List.nil_append, List.cons_append, List.append_eq, Int.toNat_natCast] at h23
                  have S23 := Lib.hid h23; clear h23
                  go_wp2_with fail
                  refine (new_st _).mono ?_
                  rintro e w24 ⟨p2, rfl, hh⟩
                  have h24 := S23.out.call hh; clear hh S23
                  try simp only [List.nil_append, List.cons_append, List.append_eq, Int.toNat_natCast] at h24
                  have S24 := Lib.hid h24; clear h24
                  go_wp2_with fail
                  refine (times_st (by omega) (by omega) HN.out hn3 (S24.out.ext HR.out) H8.out).mono ?_
                  rintro e w25 ⟨b8, rfl, hh⟩
                  have h25 := S24.out.call hh; clear hh S24
                  try simp only [List.nil_append, List.cons_append, List.append_eq, Int.toNat_natCast] at h25
                  have S25 := Lib.hid h25; clear h25
                  go_wp2_with fail
                  refine (equal_st HLM.out hn3 (S25.out.rd mem4) (S25.out.rd mem0)).mono ?_
                  rintro e w26 ⟨rfl, hh⟩
                  have h26 := S25.out.call hh; clear hh S25
                  try simp only [List.nil_append, List.cons_append, List.append_eq, Int.toNat_natCast] at h26
                  have S26 := Lib.hid h26; clear h26
                  go_wp2_with fail
                  go_ret
                  exact ⟨rfl, S26.out.below⟩

end Go.Proofs.Ythfenafhdigniaa.L6
