/- The laws' 'apart': lists that share no memory, spare room too (printed by gen/mk_ap.py). -/
import Derived.Test.YtadgjmlkpnifoaaAk
namespace Go.Proofs.Ytadgjmlkpnifoaa.St
set_option linter.unusedSimpArgs false
set_option linter.unusedVariables false
open Go Go.RowKit Go.Proofs.Ytadgjmlkpnifoaa Go.Proofs.Ytadgjmlkpnifoaa.Mm Go.Proofs.Ytadgjmlkpnifoaa.Wr

theorem rep_succ {α : Type} (j : Nat) (x : α) : List.replicate (j + 1) x = List.replicate j x ++ [x] := List.replicate_succ'
theorem set_rep {α : Type} {l : List α} {n k : Nat} {z t : α} (h : l.length = n) (hn : n < k) : (l ++ List.replicate (k - n) z).set n t = (l ++ [t]) ++ List.replicate (k - (n + 1)) z := by
  subst h
  rw [List.set_append_right _ _ (Nat.le_refl _), Nat.sub_self]
  rw [show k - l.length = (k - (l.length + 1)) + 1 by omega, List.replicate_succ, List.set_cons_zero, List.append_assoc]
  rfl
/-- List k of a family while list i is written up to j: f k stands in all places of those ahead. -/
abbrev nwr (f : Nat → Nat) (i j k : Nat) (l : List Nat) : Prop := l.length ≤ 4194304 ∧ (k < i → ∀ p, p < l.length → l[p]? = some (f k)) ∧ (k = i → ∀ p, p < j → p < l.length → l[p]? = some (f k))
abbrev ngr (f g : Nat → Nat) (cnt k : Nat) (l m : List Nat) : Prop := l.length ≤ 4194304 ∧ (∀ p, p < l.length → l[p]? = some (f k)) ∧ m = l ++ List.replicate cnt (g k)

theorem info_ap21 : (Try.prog.info? 24).map (fun i => (i.zero, i.size, i.bytes)) = some (some (es ⟨none, 0, 0⟩), 1, 24) := by kernel_rfl
theorem info_ap22 : (Try.prog.info? 5).map (fun i => (i.zero, i.size, i.bytes)) = some (some (e8 0), 1, 1) := by kernel_rfl

theorem info_ap51 : (Try.prog.info? 24).map (fun i => (i.zero, i.size, i.bytes)) = some (some (es ⟨none, 0, 0⟩), 1, 24) := by kernel_rfl
theorem info_ap52 : (Try.prog.info? 5).map (fun i => (i.zero, i.size, i.bytes)) = some (some (e8 0), 1, 1) := by kernel_rfl

theorem info_ap81 : (Try.prog.info? 24).map (fun i => (i.zero, i.size, i.bytes)) = some (some (es ⟨none, 0, 0⟩), 1, 24) := by kernel_rfl
theorem info_ap82 : (Try.prog.info? 5).map (fun i => (i.zero, i.size, i.bytes)) = some (some (e8 0), 1, 1) := by kernel_rfl

set_option maxRecDepth 100000 in
set_option maxHeartbeats 4000000 in
theorem ap8_st {A : Option Addr} {kk cp : Nat} {ds : List Sd} {Gs : List (List Ent)} {w0 w : World} {W N : List Ent} (hk : ds.length = kk) (hkb : kk ≤ 100000) (h : St w0 w W (Gs.flatten ++ N)) (hf : Fam kk (Own e8 5 ds (fun _ l => l.length ≤ 4194304)) Gs) (hr : ∀ (w' : World) (N' : List Ent), St w0 w' W N' → (∀ e ∈ N, e ∈ N') → RdV es w' A ds) :
    Calls Try.prog 29 #[.slice A kk cp] w fun e w' => e = .returned (.bool true) ∧ St w0 w' W N := by
  have HDL := Lib.hid hk; have HF := Lib.hid hf; have RDS := Lib.hid hr; have S1 := Lib.hid h
  clear hk hf hr h
  obtain ⟨f, Hf⟩ : ∃ f : Nat → Nat, Hid (∀ i, f i = (2 * i + 1) % 256) := ⟨_, Lib.hid fun _ => rfl⟩
  obtain ⟨g, Hg⟩ : ∃ g : Nat → Nat, Hid (∀ i, g i = (2 * i + 2) % 256) := ⟨_, Lib.hid fun _ => rfl⟩
  go_enter Try.func29, Try.ntmps29
  go_wp2_with fail
  go_loopw [3] (fun vi wr => ∃ (i : Nat) (Gs : List (List Ent)), i ≤ kk ∧ vi = .int .i64 i ∧ Fam kk (Own e8 5 ds (nwr f i 0)) Gs ∧ St w0 wr W (Gs.flatten ++ N)) (fun vi _ => kk - (intOf vi).toNat)
  case atStart => exact ⟨0, Gs, by omega, rfl, HF.out.imp (fun k G _ ⟨d, l, h1, h2, h3⟩ => ⟨d, l, h1, ⟨h2, fun h => absurd h (by omega), fun _ p hp => absurd hp (by omega)⟩, h3⟩), S1.out⟩
  case round =>
    clear S1 HF
    obtain ⟨i, Gs, hi, rfl, hfam, hs⟩ := hrel
    have S5 := Lib.hid hs; have HF := Lib.hid hfam; clear hs hfam
    by_cases hlt : i < kk
    · obtain ⟨⟨dA, dn, dc⟩, hd⟩ := get_ds HDL.out hlt
      have hdn : dn ≤ 4194304 := by
        obtain ⟨G, _, ⟨d', l', h1, h2, h3⟩, _⟩ := HF.out.get hlt
        rw [hd] at h1; injection h1 with h1; subst h1
        have := h3.len; simp only at this; rw [this]; exact h2.1
      have HD1 := Lib.hid hd
      have i1 : (i : Int) < (kk : Int) := by omega
      clear hd
      go_wp2_with fail
      go_loopw [4] (fun vj wq => ∃ (j : Nat) (Gs : List (List Ent)), j ≤ dn ∧ vj = .int .i64 j ∧ Fam kk (Own e8 5 ds (nwr f i j)) Gs ∧ St w0 wq W (Gs.flatten ++ N)) (fun vj _ => dn - (intOf vj).toNat)
      case atStart => exact ⟨0, Gs, by omega, rfl, HF.out, S5.out⟩
      case round =>
        clear S5 HF
        obtain ⟨j, Gs, hj, rfl, hfam, hs⟩ := hrel
        have S6 := Lib.hid hs; have HF := Lib.hid hfam; clear hs hfam
        obtain ⟨bt', ot, eA, kA⟩ := (RDS.out wr _ S6.out (fun e he => by simp [he])) (by rw [HDL.out]; omega)
        have m1 := kA i _ HD1.out
        subst eA
        simp only [es] at m1
        clear kA
        by_cases hjt : j < dn
        · obtain ⟨G, R, ⟨d', l', h1, ⟨hl, hp1, hp2⟩, hg⟩, hs, hback⟩ := HF.out.focus S6.out hlt
          rw [HD1.out] at h1; injection h1 with h1; subst h1
          have hln : dn = l'.length := hg.len
          obtain ⟨b, hA, f1, ⟨x, hx, m2⟩, hset⟩ := hg.at hs (j := j) (by omega)
          simp only at hA
          subst hA
          obtain ⟨y, hy⟩ : ∃ y, Hid (f i = y) := ⟨_, Lib.hid rfl⟩
          have NEXT : Hid (∃ Gs', Fam kk (Own e8 5 ds (nwr f i (j + 1))) Gs' ∧ St w0 (wr.setCell ⟨b, j, none⟩ (e8 y)) W (Gs'.flatten ++ N)) := Lib.hid (by
            obtain ⟨G', hg', hs'⟩ := hset y
            refine hback _ G' _ _ hs' ⟨_, l'.set j y, HD1.out, ⟨by simpa using hl, fun h => absurd h (by omega), fun _ p hp hpl => ?_⟩, hg'⟩ (fun k G hk _ ⟨d, l, h1, h2, h3⟩ => ⟨d, l, h1, ⟨h2.1, h2.2.1, fun e => absurd e hk⟩, h3⟩)
            rw [List.length_set] at hpl
            by_cases hpj : j = p
            · subst hpj
              rw [List.getElem?_set_self (by omega), hy.out]
            · rw [List.getElem?_set_ne hpj]
              exact hp2 rfl p (by omega) hpl)
          have j1 : (j : Int) < (dn : Int) := by omega
          have t1 : (2 * (i : Int) + 1) % 256 = (y : Int) := by rw [← hy.out, Hf.out]; omega
          have t2 : IntKind.u8.wrap (2 * (i : Int) + 1) = (y : Int) := t1
          clear hset hback hs hg hp1 hp2 hl hx HF hln
          go_wp2_with fail
          clear t1 t2 m2 f1 m1
          obtain ⟨Gs', hF', hS'⟩ := NEXT.out
          refine ⟨⟨j + 1, Gs', by omega, by simp, hF', hS'⟩, ?_⟩
          simp [intOf]; omega
        · obtain rfl : j = dn := by omega
          go_wp2_with fail
          refine ⟨⟨i + 1, Gs, by omega, by simp, HF.out.imp (fun k G _ ⟨d, l, h1, h2, h3⟩ => ⟨d, l, h1, ⟨h2.1, fun h => ?_, fun _ p hp => absurd hp (by omega)⟩, h3⟩), S6.out⟩, ?_⟩
          · by_cases hk : k < i
            · exact h2.2.1 hk
            · obtain rfl : k = i := by omega
              rw [HD1.out] at h1; injection h1 with h1; subst h1
              have hln : j = l.length := h3.len
              exact fun p hp => h2.2.2 rfl p (by omega) hp
          · simp [intOf]; omega
    · obtain rfl : i = kk := by omega
      have HF1 : Hid (Fam i (fun k G => (k < 0 → Pair2 e8 ds [] (ngr f g 80) k G) ∧ (0 ≤ k → Own e8 5 ds (fun k l => l.length ≤ 4194304 ∧ ∀ p, p < l.length → l[p]? = some (f k)) k G)) Gs) := Lib.hid (HF.out.imp fun k G hk ⟨d, l, h1, h2, h3⟩ => ⟨fun h => absurd h (by omega), fun _ => ⟨d, l, h1, ⟨h2.1, h2.2.1 hk⟩, h3⟩⟩)
      clear HF hlt hi
      obtain ⟨kk, rfl⟩ : ∃ kk, kk = i := ⟨_, rfl⟩
      go_wp2_with ((with_reducible refine at_slot (N := 39) rfl ?_); refine make_v (enc := es) rfl _ _ _ .i64 .i64 kk kk 24 ⟨none, 0, 0⟩ rfl rfl rfl Try.underlying55 info_ap81 rfl (Nat.le_refl _) (by omega) (by omega) S5.out ?_; intro bg w6 h6; (try simp only [World.size_alloc, List.nil_append, List.cons_append, List.append_eq] at h6); have S6 := Lib.hid h6; clear h6 S5)
      have S7 : Hid (St w0 w6 W (Gs.flatten ++ (⟨bg, 24, cellsV es (([] : List Sd) ++ List.replicate (kk - 0) ⟨none, 0, 0⟩)⟩ :: N))) := Lib.hid (S6.out.perm (front_perm [_] _ _))
      clear S6
      go_loopw [6] (fun vi wr => ∃ (i : Nat) (ts : List Sd) (Gs : List (List Ent)), i ≤ kk ∧ vi = .int .i64 i ∧ ts.length = i ∧ Fam kk (fun k G => (k < i → Pair2 e8 ds ts (ngr f g 80) k G) ∧ (i ≤ k → Own e8 5 ds (fun k l => l.length ≤ 4194304 ∧ ∀ p, p < l.length → l[p]? = some (f k)) k G)) Gs ∧ St w0 wr W (Gs.flatten ++ (⟨bg, 24, cellsV es (ts ++ List.replicate (kk - i) ⟨none, 0, 0⟩)⟩ :: N))) (fun vi _ => kk - (intOf vi).toNat)
      case atStart => exact ⟨0, [], Gs, by omega, rfl, rfl, HF1.out, S7.out⟩
      case round =>
        clear S7 HF1
        obtain ⟨i, ts, Gs, hi, rfl, htl, hfam, hs⟩ := hrel
        have S7 := Lib.hid hs; have HF := Lib.hid hfam; have HTL := Lib.hid htl; clear hs hfam htl
        by_cases hlt : i < kk
        · obtain ⟨⟨dA, dn, dc⟩, hd⟩ := get_ds HDL.out hlt
          obtain ⟨bt', ot, eA, kA⟩ := (RDS.out wr _ S7.out (fun e he => by simp [he])) (by rw [HDL.out]; omega)
          have m1 := kA i _ hd
          obtain ⟨G, R, hP, hs, hback⟩ := HF.out.focus S7.out hlt
          obtain ⟨d', l', h1, h2, hg⟩ := hP.2 (Nat.le_refl _)
          rw [hd] at h1; injection h1 with h1; subst h1
          have hln : dn = l'.length := hg.len
          subst eA
          simp only [es] at m1
          obtain ⟨x, hx⟩ : ∃ x, Hid (g i = x) := ⟨_, Lib.hid rfl⟩
          have HD1 := Lib.hid hd
          have HG0 := Lib.hid hg; have HB := Lib.hid hback; have H2 := Lib.hid h2; have HLN := Lib.hid hln
          have S8 := Lib.hid hs
          have i1 : (i : Int) < (kk : Int) := by omega
          have hdn : dn ≤ 4194304 := by rw [hln]; exact h2.1
          clear kA hd hP hg hback hs HF S7 h2 hln
          go_wp2_with fail
          go_loopw [7, 8] (fun v vj wq => ∃ (j : Nat) (Gg K : List Ent), j ≤ 80 ∧ vj = .int .i64 j ∧ GrowV e8 5 v (l' ++ List.replicate j x) Gg ∧ Hold dA (l'.map e8) (Gg ++ K) ∧ St w0 wq W (Gg ++ (K ++ (R ++ (⟨bg, 24, cellsV es (ts ++ List.replicate (kk - i) ⟨none, 0, 0⟩)⟩ :: N))))) (fun _ vj _ => 80 - (intOf vj).toNat)
          case atStart =>
            have hh := HG0.out
            exact ⟨0, G, [], by omega, rfl, by simpa using hh, by rw [List.append_nil]; exact Grow.hold hh, S8.out⟩
          case round =>
            clear S8 HG0 m1
            obtain ⟨j, Gg, K, hj, rfl, hg, hh, hs⟩ := hrel
            have S9 := Lib.hid hs; have HG := Lib.hid hg; have HH := Lib.hid hh; clear hs hg hh
            have HLn : Hid ((l' ++ List.replicate j x).length = dn + j) := Lib.hid (by rw [List.length_append, HLN.out, List.length_replicate])
            by_cases hjt : j < 80
            · have j1 : (j : Int) < 80 := by omega
              have t1 : (2 * (i : Int) + 2) % 256 = (x : Int) := by rw [← hx.out, Hg.out]; omega
              have t2 : IntKind.u8.wrap (2 * (i : Int) + 2) = (x : Int) := t1
              go_wp2_with ((with_reducible refine at_slot (N := 60) rfl ?_); refine append_keep (enc := e8) (N := K ++ (R ++ (⟨bg, 24, cellsV es (ts ++ List.replicate (kk - i) ⟨none, 0, 0⟩)⟩ :: N))) (G := Gg) rfl _ _ _ rfl 0 1 Try.underlying24 info_ap82 rfl (fun _ => rfl) _ _ rfl (S9.out.skip (t := 5) (c := cellsV e8 [x])) HG.out (some ⟨wr.heap.size, 0, none⟩) 1 1 [x] rfl rfl (RdV.of_blk (Blk.new wr _ _)) (by rw [HLn.out]; show (dn + j + 1) * 1 ≤ _; omega) (by rw [HLn.out]; show dn + j + 1 ≤ _; unfold maxLen; omega) ?_; intro v' w10 G' K' h10 hg' hk'; have HG' := Lib.hid hg'; have HK' := Lib.hid hk'; clear hg' hk' HG t1 t2; (try simp only [World.size_alloc, List.nil_append, List.cons_append, List.append_eq] at h10); have S10 := Lib.hid h10; clear h10 S9)
              go_roundw
              case rel => exact ⟨j + 1, G', K' ++ K, by omega, by go_num, by rw [rep_succ, ← List.append_assoc]; exact HG'.out, HH.out.step (HK'.out _ _ (by rw [List.length_map, HLn.out, ← HLN.out]; omega)), by rw [List.append_assoc]; exact S10.out⟩
              case measure => simp [intOf]; omega
            · obtain rfl : j = 80 := by omega
              obtain ⟨A2, c2, rfl⟩ := HG.out.shape
              rw [HLn.out] at HG ⊢
              have S10 : Hid (St w0 wr W (((Gg ++ K) ++ R) ++ (⟨bg, 24, cellsV es (ts ++ List.replicate (kk - i) ⟨none, 0, 0⟩)⟩ :: N))) := Lib.hid (by simpa only [List.append_assoc] using S9.out)
              have hbg := S10.out.blk (b := bg) (t := 24) (c := cellsV es (ts ++ List.replicate (kk - i) ⟨none, 0, 0⟩)) (by simp)
              have m3 : wr.cell? ⟨bg, i, none⟩ = some (.slice none 0 0) := hbg.cell (v := es ⟨none, 0, 0⟩) (cellsV_get (enc := es) (by
                rw [List.getElem?_append_right (by rw [HTL.out]; exact Nat.le_refl _), HTL.out, Nat.sub_self]
                rw [show kk - i = (kk - (i + 1)) + 1 by omega]; rfl))
              have f3 := hbg.free (i := i)
              clear hbg
              go_wp2_with fail
              clear m3 f3
              have hS := S10.out.setV (enc := es) (N1 := (Gg ++ K) ++ R) i ⟨A2, dn + 80, c2⟩
              rw [set_rep HTL.out hlt, List.append_assoc (Gg ++ K) R] at hS
              have htl := HTL.out
              obtain ⟨Gs', hF', hS'⟩ := HB.out _ (Gg ++ K) _ (fun k G => (k < i + 1 → Pair2 e8 ds (ts ++ [⟨A2, dn + 80, c2⟩]) (ngr f g 80) k G) ∧ (i + 1 ≤ k → Own e8 5 ds (fun k l => l.length ≤ 4194304 ∧ ∀ p, p < l.length → l[p]? = some (f k)) k G)) hS ⟨fun _ => ⟨_, ⟨A2, dn + 80, c2⟩, l', l' ++ List.replicate 80 x, HD1.out, by rw [List.getElem?_append_right (by omega), htl]; simp, ⟨H2.out.1, H2.out.2, by rw [hx.out]⟩, HLN.out, by rw [HLn.out], HH.out, (Grow.hold HG.out).mono fun e he => by simp [he]⟩, fun h => absurd h (by omega)⟩ (fun k G hk _ h => ⟨fun hlt => by
                obtain ⟨d, t, l, m, q1, q2, q3⟩ := h.1 (by omega)
                exact ⟨d, t, l, m, q1, by rw [List.getElem?_append_left (by omega)]; exact q2, q3⟩, fun hle => h.2 (by omega)⟩)
              go_roundw
              case rel => exact ⟨i + 1, _, Gs', by omega, by go_num, by simp [htl], hF', hS'⟩
              case measure => simp [intOf]; omega
        · obtain rfl : i = kk := by omega
          have HF1 : Hid (Fam i (Pair2 e8 ds ts (ngr f g 80)) Gs) := Lib.hid (HF.out.imp fun k G hk h => h.1 hk)
          rw [Nat.sub_self, List.replicate_zero, List.append_nil] at S7
          clear HF hlt hi
          obtain ⟨kk, rfl⟩ : ∃ kk, kk = i := ⟨_, rfl⟩
          obtain ⟨NN, hNN⟩ : ∃ NN, Hid (Gs.flatten ++ (⟨bg, 24, cellsV es ts⟩ :: N) = NN) := ⟨_, Lib.hid rfl⟩
          rw [hNN.out] at S7
          have RT : Hid (∀ wr : World, St w0 wr W NN → ∀ i d, ds[i]? = some d → ∃ bd od, A = some ⟨bd, od, none⟩ ∧ wr.cell? ⟨bd, od + i, none⟩ = some (es d)) := Lib.hid (fun wr hs i d hd => by
            obtain ⟨b, o, hA, k⟩ := RDS.out wr _ hs (fun e he => by rw [← hNN.out]; simp [he]) (by
              rcases Nat.eq_zero_or_pos ds.length with h | h
              · rw [List.eq_nil_of_length_eq_zero h] at hd; simp at hd
              · exact h)
            exact ⟨b, o, hA, k i d hd⟩)
          have RG : Hid (∀ wr : World, St w0 wr W NN → ∀ i t, ts[i]? = some t → wr.cell? ⟨bg, i, none⟩ = some (es t)) := Lib.hid (fun wr hs i t ht => (hs.blk (b := bg) (t := 24) (c := cellsV es ts) (by rw [← hNN.out]; simp)).cell (cellsV_get ht))
          have HN : Hid (∀ wr : World, St w0 wr W NN → St w0 wr W N) := Lib.hid (fun wr hs => hs.drop (by rw [← hNN.out]; exact (List.sublist_cons_self _ _).trans (List.sublist_append_right _ _)))
          have HMM : Hid (∀ e ∈ Gs.flatten, e ∈ NN) := Lib.hid (fun e he => by rw [← hNN.out]; simp [he])
          clear hNN RDS
          go_wp2_with fail
          go_loopw [9] (fun vi wr => ∃ (i : Nat), i ≤ kk ∧ vi = .int .i64 i ∧ St w0 wr W NN) (fun vi _ => kk - (intOf vi).toNat)
          case atStart => exact ⟨0, by omega, rfl, S7.out⟩
          case round =>
            clear S7
            obtain ⟨i, hi, rfl, hs⟩ := hrel
            have S8 := Lib.hid hs; clear hs
            by_cases hlt : i < kk
            · obtain ⟨G, _, ⟨⟨dA, dn, dc⟩, ⟨tA, tn, tc⟩, l1, l2, hd, ht, ⟨hb1, hp1, rfl⟩, hdn, htn, hh1, hh2⟩, hmG⟩ := HF1.out.get hlt
              rw [List.length_append, List.length_replicate] at htn
              simp only at hdn htn hh1 hh2
              rw [← hdn] at htn hb1 hp1
              subst htn
              obtain ⟨bd, od, eA, m1⟩ := RT.out _ S8.out i _ hd
              subst eA
              simp only [es] at m1
              have HD1 := Lib.hid hd; have HT1 := Lib.hid ht; have HP1 := Lib.hid hp1; have HLN := Lib.hid hdn
              have HH1 := Lib.hid hh1; have HH2 := Lib.hid hh2
              have HMG : Hid (∀ e ∈ G, e ∈ NN) := Lib.hid (fun e he => HMM.out e (hmG e he))
              have i1 : (i : Int) < (kk : Int) := by omega
              clear hd ht hh1 hh2 hmG hp1 hdn
              go_wp2_with fail
              clear m1
              go_loopw [11] (fun vj wq => ∃ (j : Nat), j ≤ dn + 80 ∧ vj = .int .i64 j ∧ St w0 wq W NN) (fun vj _ => dn + 80 - (intOf vj).toNat)
              case atStart => exact ⟨0, by omega, rfl, S8.out⟩
              case round =>
                clear S8
                obtain ⟨j, hj, rfl, hs⟩ := hrel
                have S9 := Lib.hid hs; clear hs
                have m1 : wr.cell? ⟨bd, od + i, none⟩ = some (.slice dA dn dc) := by
                  obtain ⟨bd', od', e', k'⟩ := RT.out _ S9.out i _ HD1.out
                  injection e' with e'; injection e' with e1 e2 _; subst e1 e2; exact k'
                have m2 : wr.cell? ⟨bg, i, none⟩ = some (.slice tA (dn + 80) tc) := RG.out _ S9.out i _ HT1.out
                by_cases hjt : j < dn + 80
                · have j1 : (j : Int) < (dn : Int) + 80 := by omega
                  have j2 : j < dn + 80 := hjt
                  by_cases hjd : j < dn
                  · obtain ⟨y, hy⟩ : ∃ y, Hid (f i = y) := ⟨_, Lib.hid rfl⟩
                    have q := HP1.out j hjd
                    rw [hy.out] at q
                    obtain ⟨b1, eB1, m3⟩ := HH1.out.cell (j := j) (u := e8 y) S9.out HMG.out (by rw [List.getElem?_map, q]; rfl)
                    obtain ⟨b2, eB2, m4⟩ := HH2.out.cell (j := j) (u := e8 y) S9.out HMG.out (by rw [List.getElem?_map, List.getElem?_append_left (by rw [← HLN.out]; exact hjd), q]; rfl)
                    subst eB1 eB2
                    have t1 : (2 * (i : Int) + 1) % 256 = (y : Int) := by rw [← hy.out, Hf.out]; omega
                    have t2 : IntKind.u8.wrap (2 * (i : Int) + 1) = (y : Int) := t1
                    have j3 : (j : Int) < (dn : Int) := by omega
                    clear q
                    go_wp2_with fail
                    clear t1 t2 m1 m2 m3 m4
                    go_roundw
                    case rel => exact ⟨j + 1, by omega, by go_num, S9.out⟩
                    case measure => simp [intOf]; omega
                  · obtain ⟨x, hx⟩ : ∃ x, Hid (g i = x) := ⟨_, Lib.hid rfl⟩
                    obtain ⟨b2, eB2, m4⟩ := HH2.out.cell (j := j) (u := e8 x) S9.out HMG.out (by
                      rw [List.getElem?_map, List.getElem?_append_right (by rw [← HLN.out]; omega), List.getElem?_replicate, if_pos (by rw [← HLN.out]; omega), hx.out]; rfl)
                    subst eB2
                    have t1 : (2 * (i : Int) + 2) % 256 = (x : Int) := by rw [← hx.out, Hg.out]; omega
                    have t2 : IntKind.u8.wrap (2 * (i : Int) + 2) = (x : Int) := t1
                    have j3 : (dn : Int) ≤ (j : Int) := by omega
                    have j4 : ¬ (j : Int) < (dn : Int) := by omega
                    go_wp2_with fail
                    clear t1 t2 m1 m2 m4
                    go_roundw
                    case rel => exact ⟨j + 1, by omega, by go_num, S9.out⟩
                    case measure => simp [intOf]; omega
                · obtain rfl : j = dn + 80 := by omega
                  go_wp2_with fail
                  go_roundw
                  case rel => exact ⟨i + 1, by omega, by go_num, S9.out⟩
                  case measure => simp [intOf]; omega
            · go_wp2_with fail
              go_ret
              exact ⟨rfl, HN.out _ S8.out⟩

theorem info_ap161 : (Try.prog.info? 36).map (fun i => (i.zero, i.size, i.bytes)) = some (some (es ⟨none, 0, 0⟩), 1, 24) := by kernel_rfl
theorem info_ap162 : (Try.prog.info? 23).map (fun i => (i.zero, i.size, i.bytes)) = some (some (e16 0), 1, 2) := by kernel_rfl

set_option maxRecDepth 100000 in
set_option maxHeartbeats 4000000 in
theorem ap16_st {A : Option Addr} {kk cp : Nat} {ds : List Sd} {Gs : List (List Ent)} {w0 w : World} {W N : List Ent} (hk : ds.length = kk) (hkb : kk ≤ 100000) (h : St w0 w W (Gs.flatten ++ N)) (hf : Fam kk (Own e16 23 ds (fun _ l => l.length ≤ 4194304)) Gs) (hr : ∀ (w' : World) (N' : List Ent), St w0 w' W N' → (∀ e ∈ N, e ∈ N') → RdV es w' A ds) :
    Calls Try.prog 30 #[.slice A kk cp] w fun e w' => e = .returned (.bool true) ∧ St w0 w' W N := by
  have HDL := Lib.hid hk; have HF := Lib.hid hf; have RDS := Lib.hid hr; have S1 := Lib.hid h
  clear hk hf hr h
  obtain ⟨f, Hf⟩ : ∃ f : Nat → Nat, Hid (∀ i, f i = (2 * i + 1) % 65536) := ⟨_, Lib.hid fun _ => rfl⟩
  obtain ⟨g, Hg⟩ : ∃ g : Nat → Nat, Hid (∀ i, g i = (2 * i + 2) % 65536) := ⟨_, Lib.hid fun _ => rfl⟩
  go_enter Try.func30, Try.ntmps30
  go_wp2_with fail
  go_loopw [3] (fun vi wr => ∃ (i : Nat) (Gs : List (List Ent)), i ≤ kk ∧ vi = .int .i64 i ∧ Fam kk (Own e16 23 ds (nwr f i 0)) Gs ∧ St w0 wr W (Gs.flatten ++ N)) (fun vi _ => kk - (intOf vi).toNat)
  case atStart => exact ⟨0, Gs, by omega, rfl, HF.out.imp (fun k G _ ⟨d, l, h1, h2, h3⟩ => ⟨d, l, h1, ⟨h2, fun h => absurd h (by omega), fun _ p hp => absurd hp (by omega)⟩, h3⟩), S1.out⟩
  case round =>
    clear S1 HF
    obtain ⟨i, Gs, hi, rfl, hfam, hs⟩ := hrel
    have S5 := Lib.hid hs; have HF := Lib.hid hfam; clear hs hfam
    by_cases hlt : i < kk
    · obtain ⟨⟨dA, dn, dc⟩, hd⟩ := get_ds HDL.out hlt
      have hdn : dn ≤ 4194304 := by
        obtain ⟨G, _, ⟨d', l', h1, h2, h3⟩, _⟩ := HF.out.get hlt
        rw [hd] at h1; injection h1 with h1; subst h1
        have := h3.len; simp only at this; rw [this]; exact h2.1
      have HD1 := Lib.hid hd
      have i1 : (i : Int) < (kk : Int) := by omega
      clear hd
      go_wp2_with fail
      go_loopw [4] (fun vj wq => ∃ (j : Nat) (Gs : List (List Ent)), j ≤ dn ∧ vj = .int .i64 j ∧ Fam kk (Own e16 23 ds (nwr f i j)) Gs ∧ St w0 wq W (Gs.flatten ++ N)) (fun vj _ => dn - (intOf vj).toNat)
      case atStart => exact ⟨0, Gs, by omega, rfl, HF.out, S5.out⟩
      case round =>
        clear S5 HF
        obtain ⟨j, Gs, hj, rfl, hfam, hs⟩ := hrel
        have S6 := Lib.hid hs; have HF := Lib.hid hfam; clear hs hfam
        obtain ⟨bt', ot, eA, kA⟩ := (RDS.out wr _ S6.out (fun e he => by simp [he])) (by rw [HDL.out]; omega)
        have m1 := kA i _ HD1.out
        subst eA
        simp only [es] at m1
        clear kA
        by_cases hjt : j < dn
        · obtain ⟨G, R, ⟨d', l', h1, ⟨hl, hp1, hp2⟩, hg⟩, hs, hback⟩ := HF.out.focus S6.out hlt
          rw [HD1.out] at h1; injection h1 with h1; subst h1
          have hln : dn = l'.length := hg.len
          obtain ⟨b, hA, f1, ⟨x, hx, m2⟩, hset⟩ := hg.at hs (j := j) (by omega)
          simp only at hA
          subst hA
          obtain ⟨y, hy⟩ : ∃ y, Hid (f i = y) := ⟨_, Lib.hid rfl⟩
          have NEXT : Hid (∃ Gs', Fam kk (Own e16 23 ds (nwr f i (j + 1))) Gs' ∧ St w0 (wr.setCell ⟨b, j, none⟩ (e16 y)) W (Gs'.flatten ++ N)) := Lib.hid (by
            obtain ⟨G', hg', hs'⟩ := hset y
            refine hback _ G' _ _ hs' ⟨_, l'.set j y, HD1.out, ⟨by simpa using hl, fun h => absurd h (by omega), fun _ p hp hpl => ?_⟩, hg'⟩ (fun k G hk _ ⟨d, l, h1, h2, h3⟩ => ⟨d, l, h1, ⟨h2.1, h2.2.1, fun e => absurd e hk⟩, h3⟩)
            rw [List.length_set] at hpl
            by_cases hpj : j = p
            · subst hpj
              rw [List.getElem?_set_self (by omega), hy.out]
            · rw [List.getElem?_set_ne hpj]
              exact hp2 rfl p (by omega) hpl)
          have j1 : (j : Int) < (dn : Int) := by omega
          have t1 : (2 * (i : Int) + 1) % 65536 = (y : Int) := by rw [← hy.out, Hf.out]; omega
          have t2 : IntKind.u16.wrap (2 * (i : Int) + 1) = (y : Int) := t1
          clear hset hback hs hg hp1 hp2 hl hx HF hln
          go_wp2_with fail
          clear t1 t2 m2 f1 m1
          obtain ⟨Gs', hF', hS'⟩ := NEXT.out
          refine ⟨⟨j + 1, Gs', by omega, by simp, hF', hS'⟩, ?_⟩
          simp [intOf]; omega
        · obtain rfl : j = dn := by omega
          go_wp2_with fail
          refine ⟨⟨i + 1, Gs, by omega, by simp, HF.out.imp (fun k G _ ⟨d, l, h1, h2, h3⟩ => ⟨d, l, h1, ⟨h2.1, fun h => ?_, fun _ p hp => absurd hp (by omega)⟩, h3⟩), S6.out⟩, ?_⟩
          · by_cases hk : k < i
            · exact h2.2.1 hk
            · obtain rfl : k = i := by omega
              rw [HD1.out] at h1; injection h1 with h1; subst h1
              have hln : j = l.length := h3.len
              exact fun p hp => h2.2.2 rfl p (by omega) hp
          · simp [intOf]; omega
    · obtain rfl : i = kk := by omega
      have HF1 : Hid (Fam i (fun k G => (k < 0 → Pair2 e16 ds [] (ngr f g 80) k G) ∧ (0 ≤ k → Own e16 23 ds (fun k l => l.length ≤ 4194304 ∧ ∀ p, p < l.length → l[p]? = some (f k)) k G)) Gs) := Lib.hid (HF.out.imp fun k G hk ⟨d, l, h1, h2, h3⟩ => ⟨fun h => absurd h (by omega), fun _ => ⟨d, l, h1, ⟨h2.1, h2.2.1 hk⟩, h3⟩⟩)
      clear HF hlt hi
      obtain ⟨kk, rfl⟩ : ∃ kk, kk = i := ⟨_, rfl⟩
      go_wp2_with ((with_reducible refine at_slot (N := 39) rfl ?_); refine make_v (enc := es) rfl _ _ _ .i64 .i64 kk kk 24 ⟨none, 0, 0⟩ rfl rfl rfl Try.underlying34 info_ap161 rfl (Nat.le_refl _) (by omega) (by omega) S5.out ?_; intro bg w6 h6; (try simp only [World.size_alloc, List.nil_append, List.cons_append, List.append_eq] at h6); have S6 := Lib.hid h6; clear h6 S5)
      have S7 : Hid (St w0 w6 W (Gs.flatten ++ (⟨bg, 36, cellsV es (([] : List Sd) ++ List.replicate (kk - 0) ⟨none, 0, 0⟩)⟩ :: N))) := Lib.hid (S6.out.perm (front_perm [_] _ _))
      clear S6
      go_loopw [6] (fun vi wr => ∃ (i : Nat) (ts : List Sd) (Gs : List (List Ent)), i ≤ kk ∧ vi = .int .i64 i ∧ ts.length = i ∧ Fam kk (fun k G => (k < i → Pair2 e16 ds ts (ngr f g 80) k G) ∧ (i ≤ k → Own e16 23 ds (fun k l => l.length ≤ 4194304 ∧ ∀ p, p < l.length → l[p]? = some (f k)) k G)) Gs ∧ St w0 wr W (Gs.flatten ++ (⟨bg, 36, cellsV es (ts ++ List.replicate (kk - i) ⟨none, 0, 0⟩)⟩ :: N))) (fun vi _ => kk - (intOf vi).toNat)
      case atStart => exact ⟨0, [], Gs, by omega, rfl, rfl, HF1.out, S7.out⟩
      case round =>
        clear S7 HF1
        obtain ⟨i, ts, Gs, hi, rfl, htl, hfam, hs⟩ := hrel
        have S7 := Lib.hid hs; have HF := Lib.hid hfam; have HTL := Lib.hid htl; clear hs hfam htl
        by_cases hlt : i < kk
        · obtain ⟨⟨dA, dn, dc⟩, hd⟩ := get_ds HDL.out hlt
          obtain ⟨bt', ot, eA, kA⟩ := (RDS.out wr _ S7.out (fun e he => by simp [he])) (by rw [HDL.out]; omega)
          have m1 := kA i _ hd
          obtain ⟨G, R, hP, hs, hback⟩ := HF.out.focus S7.out hlt
          obtain ⟨d', l', h1, h2, hg⟩ := hP.2 (Nat.le_refl _)
          rw [hd] at h1; injection h1 with h1; subst h1
          have hln : dn = l'.length := hg.len
          subst eA
          simp only [es] at m1
          obtain ⟨x, hx⟩ : ∃ x, Hid (g i = x) := ⟨_, Lib.hid rfl⟩
          have HD1 := Lib.hid hd
          have HG0 := Lib.hid hg; have HB := Lib.hid hback; have H2 := Lib.hid h2; have HLN := Lib.hid hln
          have S8 := Lib.hid hs
          have i1 : (i : Int) < (kk : Int) := by omega
          have hdn : dn ≤ 4194304 := by rw [hln]; exact h2.1
          clear kA hd hP hg hback hs HF S7 h2 hln
          go_wp2_with fail
          go_loopw [7, 8] (fun v vj wq => ∃ (j : Nat) (Gg K : List Ent), j ≤ 80 ∧ vj = .int .i64 j ∧ GrowV e16 23 v (l' ++ List.replicate j x) Gg ∧ Hold dA (l'.map e16) (Gg ++ K) ∧ St w0 wq W (Gg ++ (K ++ (R ++ (⟨bg, 36, cellsV es (ts ++ List.replicate (kk - i) ⟨none, 0, 0⟩)⟩ :: N))))) (fun _ vj _ => 80 - (intOf vj).toNat)
          case atStart =>
            have hh := HG0.out
            exact ⟨0, G, [], by omega, rfl, by simpa using hh, by rw [List.append_nil]; exact Grow.hold hh, S8.out⟩
          case round =>
            clear S8 HG0 m1
            obtain ⟨j, Gg, K, hj, rfl, hg, hh, hs⟩ := hrel
            have S9 := Lib.hid hs; have HG := Lib.hid hg; have HH := Lib.hid hh; clear hs hg hh
            have HLn : Hid ((l' ++ List.replicate j x).length = dn + j) := Lib.hid (by rw [List.length_append, HLN.out, List.length_replicate])
            by_cases hjt : j < 80
            · have j1 : (j : Int) < 80 := by omega
              have t1 : (2 * (i : Int) + 2) % 65536 = (x : Int) := by rw [← hx.out, Hg.out]; omega
              have t2 : IntKind.u16.wrap (2 * (i : Int) + 2) = (x : Int) := t1
              go_wp2_with ((with_reducible refine at_slot (N := 60) rfl ?_); refine append_keep (enc := e16) (N := K ++ (R ++ (⟨bg, 36, cellsV es (ts ++ List.replicate (kk - i) ⟨none, 0, 0⟩)⟩ :: N))) (G := Gg) rfl _ _ _ rfl 0 2 Try.underlying36 info_ap162 rfl (fun _ => rfl) _ _ rfl (S9.out.skip (t := 23) (c := cellsV e16 [x])) HG.out (some ⟨wr.heap.size, 0, none⟩) 1 1 [x] rfl rfl (RdV.of_blk (Blk.new wr _ _)) (by rw [HLn.out]; show (dn + j + 1) * 2 ≤ _; omega) (by rw [HLn.out]; show dn + j + 1 ≤ _; unfold maxLen; omega) ?_; intro v' w10 G' K' h10 hg' hk'; have HG' := Lib.hid hg'; have HK' := Lib.hid hk'; clear hg' hk' HG t1 t2; (try simp only [World.size_alloc, List.nil_append, List.cons_append, List.append_eq] at h10); have S10 := Lib.hid h10; clear h10 S9)
              go_roundw
              case rel => exact ⟨j + 1, G', K' ++ K, by omega, by go_num, by rw [rep_succ, ← List.append_assoc]; exact HG'.out, HH.out.step (HK'.out _ _ (by rw [List.length_map, HLn.out, ← HLN.out]; omega)), by rw [List.append_assoc]; exact S10.out⟩
              case measure => simp [intOf]; omega
            · obtain rfl : j = 80 := by omega
              obtain ⟨A2, c2, rfl⟩ := HG.out.shape
              rw [HLn.out] at HG ⊢
              have S10 : Hid (St w0 wr W (((Gg ++ K) ++ R) ++ (⟨bg, 36, cellsV es (ts ++ List.replicate (kk - i) ⟨none, 0, 0⟩)⟩ :: N))) := Lib.hid (by simpa only [List.append_assoc] using S9.out)
              have hbg := S10.out.blk (b := bg) (t := 36) (c := cellsV es (ts ++ List.replicate (kk - i) ⟨none, 0, 0⟩)) (by simp)
              have m3 : wr.cell? ⟨bg, i, none⟩ = some (.slice none 0 0) := hbg.cell (v := es ⟨none, 0, 0⟩) (cellsV_get (enc := es) (by
                rw [List.getElem?_append_right (by rw [HTL.out]; exact Nat.le_refl _), HTL.out, Nat.sub_self]
                rw [show kk - i = (kk - (i + 1)) + 1 by omega]; rfl))
              have f3 := hbg.free (i := i)
              clear hbg
              go_wp2_with fail
              clear m3 f3
              have hS := S10.out.setV (enc := es) (N1 := (Gg ++ K) ++ R) i ⟨A2, dn + 80, c2⟩
              rw [set_rep HTL.out hlt, List.append_assoc (Gg ++ K) R] at hS
              have htl := HTL.out
              obtain ⟨Gs', hF', hS'⟩ := HB.out _ (Gg ++ K) _ (fun k G => (k < i + 1 → Pair2 e16 ds (ts ++ [⟨A2, dn + 80, c2⟩]) (ngr f g 80) k G) ∧ (i + 1 ≤ k → Own e16 23 ds (fun k l => l.length ≤ 4194304 ∧ ∀ p, p < l.length → l[p]? = some (f k)) k G)) hS ⟨fun _ => ⟨_, ⟨A2, dn + 80, c2⟩, l', l' ++ List.replicate 80 x, HD1.out, by rw [List.getElem?_append_right (by omega), htl]; simp, ⟨H2.out.1, H2.out.2, by rw [hx.out]⟩, HLN.out, by rw [HLn.out], HH.out, (Grow.hold HG.out).mono fun e he => by simp [he]⟩, fun h => absurd h (by omega)⟩ (fun k G hk _ h => ⟨fun hlt => by
                obtain ⟨d, t, l, m, q1, q2, q3⟩ := h.1 (by omega)
                exact ⟨d, t, l, m, q1, by rw [List.getElem?_append_left (by omega)]; exact q2, q3⟩, fun hle => h.2 (by omega)⟩)
              go_roundw
              case rel => exact ⟨i + 1, _, Gs', by omega, by go_num, by simp [htl], hF', hS'⟩
              case measure => simp [intOf]; omega
        · obtain rfl : i = kk := by omega
          have HF1 : Hid (Fam i (Pair2 e16 ds ts (ngr f g 80)) Gs) := Lib.hid (HF.out.imp fun k G hk h => h.1 hk)
          rw [Nat.sub_self, List.replicate_zero, List.append_nil] at S7
          clear HF hlt hi
          obtain ⟨kk, rfl⟩ : ∃ kk, kk = i := ⟨_, rfl⟩
          obtain ⟨NN, hNN⟩ : ∃ NN, Hid (Gs.flatten ++ (⟨bg, 36, cellsV es ts⟩ :: N) = NN) := ⟨_, Lib.hid rfl⟩
          rw [hNN.out] at S7
          have RT : Hid (∀ wr : World, St w0 wr W NN → ∀ i d, ds[i]? = some d → ∃ bd od, A = some ⟨bd, od, none⟩ ∧ wr.cell? ⟨bd, od + i, none⟩ = some (es d)) := Lib.hid (fun wr hs i d hd => by
            obtain ⟨b, o, hA, k⟩ := RDS.out wr _ hs (fun e he => by rw [← hNN.out]; simp [he]) (by
              rcases Nat.eq_zero_or_pos ds.length with h | h
              · rw [List.eq_nil_of_length_eq_zero h] at hd; simp at hd
              · exact h)
            exact ⟨b, o, hA, k i d hd⟩)
          have RG : Hid (∀ wr : World, St w0 wr W NN → ∀ i t, ts[i]? = some t → wr.cell? ⟨bg, i, none⟩ = some (es t)) := Lib.hid (fun wr hs i t ht => (hs.blk (b := bg) (t := 36) (c := cellsV es ts) (by rw [← hNN.out]; simp)).cell (cellsV_get ht))
          have HN : Hid (∀ wr : World, St w0 wr W NN → St w0 wr W N) := Lib.hid (fun wr hs => hs.drop (by rw [← hNN.out]; exact (List.sublist_cons_self _ _).trans (List.sublist_append_right _ _)))
          have HMM : Hid (∀ e ∈ Gs.flatten, e ∈ NN) := Lib.hid (fun e he => by rw [← hNN.out]; simp [he])
          clear hNN RDS
          go_wp2_with fail
          go_loopw [9] (fun vi wr => ∃ (i : Nat), i ≤ kk ∧ vi = .int .i64 i ∧ St w0 wr W NN) (fun vi _ => kk - (intOf vi).toNat)
          case atStart => exact ⟨0, by omega, rfl, S7.out⟩
          case round =>
            clear S7
            obtain ⟨i, hi, rfl, hs⟩ := hrel
            have S8 := Lib.hid hs; clear hs
            by_cases hlt : i < kk
            · obtain ⟨G, _, ⟨⟨dA, dn, dc⟩, ⟨tA, tn, tc⟩, l1, l2, hd, ht, ⟨hb1, hp1, rfl⟩, hdn, htn, hh1, hh2⟩, hmG⟩ := HF1.out.get hlt
              rw [List.length_append, List.length_replicate] at htn
              simp only at hdn htn hh1 hh2
              rw [← hdn] at htn hb1 hp1
              subst htn
              obtain ⟨bd, od, eA, m1⟩ := RT.out _ S8.out i _ hd
              subst eA
              simp only [es] at m1
              have HD1 := Lib.hid hd; have HT1 := Lib.hid ht; have HP1 := Lib.hid hp1; have HLN := Lib.hid hdn
              have HH1 := Lib.hid hh1; have HH2 := Lib.hid hh2
              have HMG : Hid (∀ e ∈ G, e ∈ NN) := Lib.hid (fun e he => HMM.out e (hmG e he))
              have i1 : (i : Int) < (kk : Int) := by omega
              clear hd ht hh1 hh2 hmG hp1 hdn
              go_wp2_with fail
              clear m1
              go_loopw [11] (fun vj wq => ∃ (j : Nat), j ≤ dn + 80 ∧ vj = .int .i64 j ∧ St w0 wq W NN) (fun vj _ => dn + 80 - (intOf vj).toNat)
              case atStart => exact ⟨0, by omega, rfl, S8.out⟩
              case round =>
                clear S8
                obtain ⟨j, hj, rfl, hs⟩ := hrel
                have S9 := Lib.hid hs; clear hs
                have m1 : wr.cell? ⟨bd, od + i, none⟩ = some (.slice dA dn dc) := by
                  obtain ⟨bd', od', e', k'⟩ := RT.out _ S9.out i _ HD1.out
                  injection e' with e'; injection e' with e1 e2 _; subst e1 e2; exact k'
                have m2 : wr.cell? ⟨bg, i, none⟩ = some (.slice tA (dn + 80) tc) := RG.out _ S9.out i _ HT1.out
                by_cases hjt : j < dn + 80
                · have j1 : (j : Int) < (dn : Int) + 80 := by omega
                  have j2 : j < dn + 80 := hjt
                  by_cases hjd : j < dn
                  · obtain ⟨y, hy⟩ : ∃ y, Hid (f i = y) := ⟨_, Lib.hid rfl⟩
                    have q := HP1.out j hjd
                    rw [hy.out] at q
                    obtain ⟨b1, eB1, m3⟩ := HH1.out.cell (j := j) (u := e16 y) S9.out HMG.out (by rw [List.getElem?_map, q]; rfl)
                    obtain ⟨b2, eB2, m4⟩ := HH2.out.cell (j := j) (u := e16 y) S9.out HMG.out (by rw [List.getElem?_map, List.getElem?_append_left (by rw [← HLN.out]; exact hjd), q]; rfl)
                    subst eB1 eB2
                    have t1 : (2 * (i : Int) + 1) % 65536 = (y : Int) := by rw [← hy.out, Hf.out]; omega
                    have t2 : IntKind.u16.wrap (2 * (i : Int) + 1) = (y : Int) := t1
                    have j3 : (j : Int) < (dn : Int) := by omega
                    clear q
                    go_wp2_with fail
                    clear t1 t2 m1 m2 m3 m4
                    go_roundw
                    case rel => exact ⟨j + 1, by omega, by go_num, S9.out⟩
                    case measure => simp [intOf]; omega
                  · obtain ⟨x, hx⟩ : ∃ x, Hid (g i = x) := ⟨_, Lib.hid rfl⟩
                    obtain ⟨b2, eB2, m4⟩ := HH2.out.cell (j := j) (u := e16 x) S9.out HMG.out (by
                      rw [List.getElem?_map, List.getElem?_append_right (by rw [← HLN.out]; omega), List.getElem?_replicate, if_pos (by rw [← HLN.out]; omega), hx.out]; rfl)
                    subst eB2
                    have t1 : (2 * (i : Int) + 2) % 65536 = (x : Int) := by rw [← hx.out, Hg.out]; omega
                    have t2 : IntKind.u16.wrap (2 * (i : Int) + 2) = (x : Int) := t1
                    have j3 : (dn : Int) ≤ (j : Int) := by omega
                    have j4 : ¬ (j : Int) < (dn : Int) := by omega
                    go_wp2_with fail
                    clear t1 t2 m1 m2 m4
                    go_roundw
                    case rel => exact ⟨j + 1, by omega, by go_num, S9.out⟩
                    case measure => simp [intOf]; omega
                · obtain rfl : j = dn + 80 := by omega
                  go_wp2_with fail
                  go_roundw
                  case rel => exact ⟨i + 1, by omega, by go_num, S9.out⟩
                  case measure => simp [intOf]; omega
            · go_wp2_with fail
              go_ret
              exact ⟨rfl, HN.out _ S8.out⟩

theorem info_ap71 : (Try.prog.info? 24).map (fun i => (i.zero, i.size, i.bytes)) = some (some (es ⟨none, 0, 0⟩), 1, 24) := by kernel_rfl
theorem info_ap72 : (Try.prog.info? 5).map (fun i => (i.zero, i.size, i.bytes)) = some (some (e8 0), 1, 1) := by kernel_rfl

end Go.Proofs.Ytadgjmlkpnifoaa.St
