/- Layer 9: New, Backend; the laws' sets and fixed. -/
import Derived.Test.YtdbfkjhdnbmpeaaKh
namespace Go.Proofs.Ytdbfkjhdnbmpeaa.Sk
set_option linter.unusedSimpArgs false
set_option linter.unusedVariables false
open Go Go.RowKit Go.Proofs.Ytdbfkjhdnbmpeaa Go.Proofs.Ytdbfkjhdnbmpeaa.Mm Go.Proofs.Ytdbfkjhdnbmpeaa.Gf Go.Proofs.Ytdbfkjhdnbmpeaa.Wr Go.Proofs.Ytdbfkjhdnbmpeaa.Nb Go.Proofs.Ytdbfkjhdnbmpeaa.St

set_option maxRecDepth 100000 in
set_option maxHeartbeats 1000000 in
theorem new_0 (w : World) : Calls Try.prog 28 #[.int .i64 0] w fun e w' => ∃ p S, e = .returned (.tuple #[.pointer (some ⟨p, 0, none⟩), .int .i64 0]) ∧ SetE p 0 S ∧ St w w' [] S := by
  have S0 := Lib.hid (St.start w)
  go_enter Try.func28, Try.ntmps28
  go_wp2_with fail
  refine (Tk.new_st _).mono ?_
  rintro e w1 ⟨kb, rfl, hh⟩
  have h1 := S0.out.call hh; clear hh S0
  try simp only [List.nil_append, List.cons_append, List.append_eq, Int.toNat_natCast] at h1
  have S1 := Lib.hid h1; clear h1
  go_wp2_with ((with_reducible refine at_slot (N := 22) rfl ?_); refine box_law rfl _ _ #[.iface 88 (.pointer (some ⟨kb, 0, none⟩)), .int .i64 0] rfl rfl S1.out ?_; intro p w2 h2; (try simp only [World.size_alloc, List.nil_append, List.cons_append, List.append_eq] at h2); have S2 := Lib.hid h2; clear h2 S1)
  go_ret2
  exact ⟨p, _, rfl, .inl ⟨rfl, kb, rfl⟩, S2.out⟩
set_option maxRecDepth 100000 in
set_option maxHeartbeats 1000000 in
theorem new_1 (w : World) : Calls Try.prog 28 #[.int .i64 1] w fun e w' => ∃ p S, e = .returned (.tuple #[.pointer (some ⟨p, 0, none⟩), .int .i64 0]) ∧ SetE p 1 S ∧ St w w' [] S := by
  have S0 := Lib.hid (St.start w)
  go_enter Try.func28, Try.ntmps28
  go_wp2_with fail
  refine (L6.new_st _).mono ?_
  rintro e w1 ⟨x, rfl, hh⟩
  have h1 := S0.out.call hh; clear hh S0
  try simp only [List.nil_append, List.cons_append, List.append_eq, Int.toNat_natCast] at h1
  have S1 := Lib.hid h1; clear h1
  go_wp2_with ((with_reducible refine at_slot (N := 22) rfl ?_); refine box_law rfl _ _ #[.iface 90 (.pointer (some x)), .int .i64 1] rfl rfl S1.out ?_; intro p w2 h2; (try simp only [World.size_alloc, List.nil_append, List.cons_append, List.append_eq] at h2); have S2 := Lib.hid h2; clear h2 S1)
  go_ret2
  exact ⟨p, _, rfl, .inr (.inl ⟨rfl, x, rfl⟩), S2.out⟩
set_option maxRecDepth 100000 in
set_option maxHeartbeats 1000000 in
theorem new_2 (w : World) : Calls Try.prog 28 #[.int .i64 2] w fun e w' => ∃ p S, e = .returned (.tuple #[.pointer (some ⟨p, 0, none⟩), .int .i64 0]) ∧ SetE p 2 S ∧ St w w' [] S := by
  have S0 := Lib.hid (St.start w)
  go_enter Try.func28, Try.ntmps28
  go_wp2_with fail
  refine (Sl.new_st _).mono ?_
  rintro e w1 ⟨x, rfl, hh⟩
  have h1 := S0.out.call hh; clear hh S0
  try simp only [List.nil_append, List.cons_append, List.append_eq, Int.toNat_natCast] at h1
  have S1 := Lib.hid h1; clear h1
  go_wp2_with ((with_reducible refine at_slot (N := 22) rfl ?_); refine box_law rfl _ _ #[.iface 92 (.pointer (some x)), .int .i64 2] rfl rfl S1.out ?_; intro p w2 h2; (try simp only [World.size_alloc, List.nil_append, List.cons_append, List.append_eq] at h2); have S2 := Lib.hid h2; clear h2 S1)
  go_ret2
  exact ⟨p, _, rfl, .inr (.inr ⟨rfl, x, rfl⟩), S2.out⟩
/-- A set over backend j. -/
theorem new_set {j : Nat} (hj : j < 3) (w : World) : Calls Try.prog 28 #[.int .i64 (j : Int)] w fun e w' => ∃ p S, e = .returned (.tuple #[.pointer (some ⟨p, 0, none⟩), .int .i64 0]) ∧ SetE p j S ∧ St w w' [] S := by
  rcases j with _ | _ | _ | j
  · exact new_0 w
  · exact new_1 w
  · exact new_2 w
  · omega
set_option maxRecDepth 100000 in
theorem new_none (b : Int) (w : World) (h0 : b ≠ 0) (h1 : b ≠ 1) (h2 : b ≠ 2) : Calls Try.prog 28 #[.int .i64 b] w fun e w' => e = .returned (.tuple #[.pointer none, .int .i64 3]) ∧ w = w' := by
  have q0 : (b == 0) = false := by simpa using h0
  have q1 : (b == 1) = false := by simpa using h1
  have q2 : (b == 2) = false := by simpa using h2
  clear h0 h1 h2
  go_enter Try.func28, Try.ntmps28
  go_wp2
  go_ret2
  exact ⟨rfl, rfl⟩
set_option maxRecDepth 100000 in
theorem backend_at {p j : Nat} {S : List Ent} {w : World} (hS : SetE p j S) (hb : There w S) : Calls Try.prog 30 #[.pointer (some ⟨p, 0, none⟩)] w fun e w' => e = .returned (.int .i64 (j : Int)) ∧ w = w' := by
  obtain ⟨T, x, hp⟩ := There.head hS
  have m0 := (hb _ hp).cell (i := 1) rfl
  clear hb hp hS
  go_enter Try.func30, Try.ntmps30
  go_wp2
  go_ret
  exact ⟨rfl, rfl⟩
set_option maxRecDepth 100000 in
theorem backend_nil (w : World) : Calls Try.prog 30 #[.pointer none] w fun e w' => e = .returned (.int .i64 (-1)) ∧ w = w' := by
  go_enter Try.func30, Try.ntmps30
  go_wp2
  go_ret
  exact ⟨rfl, rfl⟩

/-- Pointers to sets. -/
abbrev ep (o : Option Nat) : Value := .pointer (o.map fun p => ⟨p, 0, none⟩)
theorem info_set : (Try.prog.info? 33).map (fun i => (i.zero, i.size, i.bytes)) = some (some (.pointer none), 1, 8) := by kernel_rfl

theorem len3 {α : Type} : ∀ {l : List α}, l.length = 3 → ∃ a b c, l = [a, b, c]
  | [a, b, c], _ => ⟨a, b, c, rfl⟩
  | [], h => by simp at h
  | [_], h => by simp at h
  | [_, _], h => by simp at h
  | _ :: _ :: _ :: _ :: _, h => by simp at h
set_option maxRecDepth 100000 in
set_option maxHeartbeats 2000000 in
theorem sets_st (w : World) : Calls Try.prog 10 #[] w fun e w' => ∃ A c p0 p1 p2 S0 S1 S2 G, e = .returned (.slice A 3 c) ∧ SetE p0 0 S0 ∧ SetE p1 1 S1 ∧ SetE p2 2 S2 ∧ GrowV ep 33 (.slice A 3 c) [some p0, some p1, some p2] G ∧ St w w' [] (G ++ (S0 ++ (S1 ++ S2))) := by
  have S0 := Lib.hid (St.start w)
  go_enter Try.func10, Try.ntmps10
  go_wp2_with ((with_reducible refine at_slot (N := 6) rfl ?_); refine bslice_st rfl _ 65 3 _ (row .i64 [0, 1, 2]) rfl (fun _ => by kernel_rfl) S0.out ?_; intro bb w1 h1; (try simp only [World.size_alloc, List.nil_append, List.cons_append, List.append_eq] at h1); have S1 := Lib.hid h1; clear h1 S0)
  go_loopw [1, 8] (fun vo vi wr => ∃ (i : Nat) (ps : List Nat) (Ss : List (List Ent)) (A : Option Addr) (c : Nat) (G : List Ent), i ≤ 3 ∧ vi = .int .i64 i ∧ vo = .slice A i c ∧ ps.length = i ∧ Ss.length = i ∧ (∀ (j : Nat) p S, ps[j]? = some p → Ss[j]? = some S → SetE p j S) ∧ GrowV ep 33 (.slice A i c) (ps.map some) G ∧ St w wr [] (G ++ (Ss.flatten ++ [⟨bb, 65, row .i64 [0, 1, 2]⟩]))) (fun _ vi _ => 3 - (intOf vi).toNat)
  case atStart => exact ⟨0, [], [], none, 0, [], by omega, rfl, rfl, rfl, rfl, fun j p S h => by simp at h, GrowV.nil, S1.out⟩
  case round =>
    clear S1
    obtain ⟨i, ps, Ss, A1, c1, G, hi, rfl, rfl, hp, hSs, hse, hg, hs⟩ := hrel
    have S2 := Lib.hid hs; have HG := Lib.hid hg; have HPS := Lib.hid hp; have HSS := Lib.hid hSs; have HSE := Lib.hid hse; clear hs hg hp hSs hse
    by_cases hlt : i < 3
    · have x0 := (S2.out.blk (b := bb) (t := 65) (c := row .i64 [0, 1, 2]) (by simp)).cellRow (i := i) hlt
      have hx0 : ([0, 1, 2] : List Nat).getD i 0 = i := by
        rcases i with _ | _ | _ | i <;> first | rfl | omega
      rw [hx0] at x0
      clear hx0
      have i1 : (i : Int) < 3 := by omega
      have HPM : Hid ((ps.map some).length = i) := Lib.hid (by rw [List.length_map, HPS.out])
      go_wp2_with fail
      refine (new_set hlt _).mono ?_
      rintro e w3 ⟨p, S, rfl, hS1, hh⟩
      have h3 := S2.out.call hh; clear hh S2
      try simp only [List.nil_append, List.cons_append, List.append_eq, Int.toNat_natCast] at h3
      have HS1 := Lib.hid hS1; clear hS1
      have S3 := Lib.hid h3; clear h3
      go_wp2_with fail
      refine (backend_at HS1.out (There.of S3.out (fun e he => List.mem_append_left _ he))).mono ?_
      rintro e _ ⟨rfl, rfl⟩
      clear x0
      go_wp2_with (first
        | ((with_reducible refine at_slot (N := 31) rfl ?_); refine bslice_st rfl _ 33 1 _ (cellsV ep [some p]) rfl (fun _ => by kernel_rfl) S3.out ?_; intro sb w4 h4; (try simp only [World.size_alloc, List.nil_append, List.cons_append, List.append_eq] at h4); have S4 := Lib.hid h4; clear h4 S3)
        | ((with_reducible refine at_slot (N := 32) rfl ?_); refine append_v (enc := ep) (G := G) (N := S ++ (Ss.flatten ++ [⟨bb, 65, row .i64 [0, 1, 2]⟩])) rfl _ _ 27 rfl none 8 Try.underlying27 info_set rfl (fun _ => rfl) (.slice A1 i c1) (ps.map some) rfl ((S4.out.drop (List.sublist_cons_self _ _)).perm (front_perm S G _)) HG.out (some ⟨sb, 0, none⟩) 1 1 [some p] rfl rfl (S4.out.rdV (t := 33) mem0) (by rw [HPM.out]; show (i + 1) * 8 ≤ _; omega) (by rw [HPM.out]; show i + 1 ≤ _; unfold maxLen; omega) ?_; intro v9 w5 G2 h5 hg hz; obtain ⟨A2, c2, rfl⟩ := hg.shape; have ez : (ps.map some ++ [some p]).length = i + 1 := (by rw [List.length_append, HPM.out]; rfl); rw [ez] at hg ⊢; have HG2 := Lib.hid hg; clear hg hz ez; (try simp only [World.size_alloc, List.nil_append, List.cons_append, List.append_eq] at h5); have S5 := Lib.hid h5; clear h5 S4))
      refine ⟨⟨i + 1, ps ++ [p], Ss ++ [S], A2, c2, G2, by omega, by simp, rfl, by rw [List.length_append, HPS.out]; rfl, by rw [List.length_append, HSS.out]; rfl, fun j q R h1 h2 => ?_, by rw [List.map_append]; exact HG2.out, S5.out.perm (List.Perm.append_left _ (by rw [List.flatten_append, List.flatten_cons, List.flatten_nil, List.append_nil, List.append_assoc]; exact front_perm _ _ _))⟩, ?_⟩
      · by_cases hj : j < i
        · rw [List.getElem?_append_left (by rw [HPS.out]; exact hj)] at h1
          rw [List.getElem?_append_left (by rw [HSS.out]; exact hj)] at h2
          exact HSE.out j q R h1 h2
        · have hj2 : j < i + 1 := by
            have := (List.getElem?_eq_some_iff.1 h1).1
            rw [List.length_append, HPS.out] at this; exact this
          obtain rfl : j = i := by omega
          rw [List.getElem?_append_right (by rw [HPS.out]; exact Nat.le_refl _), HPS.out, Nat.sub_self] at h1
          rw [List.getElem?_append_right (by rw [HSS.out]; exact Nat.le_refl _), HSS.out, Nat.sub_self] at h2
          injection h1 with h1
          injection h2 with h2
          subst h1 h2
          exact HS1.out
      · simp [intOf]; omega
    · obtain rfl : i = 3 := by omega
      obtain ⟨p0, p1, p2, rfl⟩ := len3 HPS.out
      obtain ⟨T0, T1, T2, rfl⟩ := len3 HSS.out
      go_wp2_with fail
      go_ret
      have h0 := HSE.out 0 p0 T0 rfl rfl
      have h1 := HSE.out 1 p1 T1 rfl rfl
      have h2 := HSE.out 2 p2 T2 rfl rfl
      refine ⟨A1, c1, p0, p1, p2, T0, T1, T2, G, rfl, h0, h1, h2, HG.out, ?_⟩
      have := S2.out.drop (N' := G ++ (T0 ++ (T1 ++ T2))) (by
        simp only [List.flatten_cons, List.flatten_nil, List.append_nil, List.append_assoc]
        exact List.Sublist.append (List.Sublist.refl _) (List.Sublist.append (List.Sublist.refl _) (List.Sublist.append (List.Sublist.refl _) (List.sublist_append_left _ _))))
      exact this

theorem equal_same {A1 A2 : Option Addr} {m c1 c2 : Nat} {l : List Nat} {w : World} (hm : l.length = m) (hl : m ≤ 281474976710656) (h8 : B8 l) (h1 : Rd w A1 l) (h2 : Rd w A2 l) :
    Calls Try.prog 25 #[.slice A1 m c1, .slice A2 m c2] w fun e w' => e = .returned (.bool true) ∧ ∃ n, w' = w.drewN n :=
  (equal_any hm hm hl h8 h8 h1 h2).mono fun e w' ⟨he, hw⟩ => ⟨by rw [he, decide_eq_true rfl], hw⟩
theorem all_same {A1 A2 : Option Addr} {m c1 c2 : Nat} {L : List (List Nat)} {w : World} (hm : L.length = m) (hf : Fit L) (h8 : B8L L) (h1 : RdL w [] A1 L) (h2 : RdL w [] A2 L) :
    Calls Try.prog 20 #[.slice A1 m c1, .slice A2 m c2] w fun e w' => e = .returned (.bool true) ∧ ∃ n, w' = w.drewN n :=
  (all_any hm hm hf hf h8 h8 h1 h2).mono fun e w' ⟨he, hw⟩ => ⟨by rw [he, decide_eq_true rfl], hw⟩
/-- A literal list of lists, in blocks of their own. -/
theorem RdL.lit {w0 w : World} {W N : List Ent} {b : Nat} {bs xs : List Nat} {L : List (List Nat)} (hs : St w0 w W N) (hbs : bs.length = L.length) (hm : (⟨b, 39, cellsV es (sds bs L)⟩ : Ent) ∈ N) (hE : ∀ e ∈ ents bs L, e ∈ N) (hb : b ∉ xs) (hx : ∀ c ∈ bs, c ∉ xs) : RdL w xs (some ⟨b, 0, none⟩) L :=
  rdL_of hbs (hs.rdV hm) (Off.some hb) (fun e he => (hs.new e (hE e he)).2) hx
theorem fix29 : sumL [1, 2] [[3, 0], [1, 128]] 0 2 = [1, 29] := by decide +kernel
/-- A place of the list of sets. -/
theorem sets_get {A : Option Addr} {c : Nat} {ps : List (Option Nat)} {G W N : List Ent} {w0 w : World} (hg : GrowV ep 33 (.slice A ps.length c) ps G) (hs : St w0 w W N) (hG : ∀ e ∈ G, e ∈ N) : RdV ep w A ps := (Grow.hold hg).rd hs hG

set_option maxRecDepth 100000 in
set_option maxHeartbeats 2000000 in
theorem fixed_st (w : World) : Calls Try.prog 11 #[] w fun e w' => e = .returned (.bool true) ∧ St w w' [] [] := by
  have S0 := Lib.hid (St.start w)
  go_enter Try.func11, Try.ntmps11
  go_wp2_with fail
  refine (sets_st _).mono ?_
  rintro e w1 ⟨A, c, p0, p1, p2, T0, T1, T2, G, rfl, g0, g1, g2, hg, hh⟩
  have h1 := S0.out.call hh; clear hh S0
  try simp only [List.nil_append, List.cons_append, List.append_eq, Int.toNat_natCast] at h1
  have E0 := Lib.hid g0; have E1 := Lib.hid g1; have E2 := Lib.hid g2; have HG := Lib.hid hg; clear g0 g1 g2 hg; rw [List.append_nil] at h1
  have S1 := Lib.hid h1; clear h1
  have SQ := S1; clear S1
  go_wp2_with fail
  go_loopw [12] (fun vi wq => ∃ i : Nat, i ≤ 3 ∧ vi = .int .i64 i ∧ St w wq [] (G ++ (T0 ++ (T1 ++ T2)))) (fun vi _ => 3 - (intOf vi).toNat)
  case atStart => exact ⟨0, by omega, rfl, SQ.out⟩
  case round =>
    clear SQ
    obtain ⟨i, hi, rfl, hs⟩ := hrel
    have S2 := Lib.hid hs; clear hs
    by_cases hlt : i < 3
    · obtain ⟨p, S, hp, hSE, hSM⟩ : ∃ p S, ([some p0, some p1, some p2] : List (Option Nat))[i]? = some (some p) ∧ SetE p i S ∧ ∀ e ∈ S, e ∈ G ++ (T0 ++ (T1 ++ T2)) := by
        rcases i with _ | _ | _ | i
        · exact ⟨p0, T0, rfl, E0.out, fun e he => by simp [he]⟩
        · exact ⟨p1, T1, rfl, E1.out, fun e he => by simp [he]⟩
        · exact ⟨p2, T2, rfl, E2.out, fun e he => by simp [he]⟩
        · omega
      have SE := Lib.hid hSE; have SM := Lib.hid hSM; clear hSE hSM
      obtain ⟨b4, o4, e4, k4⟩ := (sets_get (ps := [some p0, some p1, some p2]) HG.out S2.out (fun e he => by simp [he])) (by simp)
      have x4 := k4 i _ hp
      subst e4
      clear k4 hp
      simp only [ep, Option.map_some] at x4
      have i1 : (i : Int) < 3 := by omega
      go_wp2_with (first
        | ((with_reducible refine at_slot (N := 16) rfl ?_); refine bslice_st rfl _ 5 2 _ (row .u8 [7, 7]) rfl (fun _ => by kernel_rfl) S2.out ?_; intro d w3 h3; (try simp only [World.size_alloc, List.nil_append, List.cons_append, List.append_eq] at h3); have S3 := Lib.hid h3; clear h3 S2)
        | ((with_reducible refine at_slot (N := 18) rfl ?_); refine bslice_st rfl _ 5 2 _ (row .u8 [1, 2]) rfl (fun _ => by kernel_rfl) S3.out ?_; intro r w4 h4; (try simp only [World.size_alloc, List.nil_append, List.cons_append, List.append_eq] at h4); have S4 := Lib.hid h4; clear h4 S3)
        | ((with_reducible refine at_slot (N := 19) rfl ?_); refine bslice_st rfl _ 5 2 _ (row .u8 [3, 0]) rfl (fun _ => by kernel_rfl) S4.out ?_; intro s1 w5 h5; (try simp only [World.size_alloc, List.nil_append, List.cons_append, List.append_eq] at h5); have S5 := Lib.hid h5; clear h5 S4)
        | ((with_reducible refine at_slot (N := 20) rfl ?_); refine bslice_st rfl _ 5 2 _ (row .u8 [1, 128]) rfl (fun _ => by kernel_rfl) S5.out ?_; intro s2 w6 h6; (try simp only [World.size_alloc, List.nil_append, List.cons_append, List.append_eq] at h6); have S6 := Lib.hid h6; clear h6 S5)
        | ((with_reducible refine at_slot (N := 21) rfl ?_); refine bslice_st rfl _ 39 2 _ (cellsV es [⟨some ⟨s1, 0, none⟩, 2, 2⟩, ⟨some ⟨s2, 0, none⟩, 2, 2⟩]) rfl (fun _ => by kernel_rfl) S6.out ?_; intro sb w7 h7; (try simp only [World.size_alloc, List.nil_append, List.cons_append, List.append_eq] at h7); have S7 := Lib.hid h7; clear h7 S6))
      have HSB := Lib.hid (fun e (he : e ∈ S) => S7.out.blk (List.mem_cons_of_mem _ (List.mem_cons_of_mem _ (List.mem_cons_of_mem _ (List.mem_cons_of_mem _ (List.mem_cons_of_mem _ (SM.out e he)))))))
      have HAP := Lib.hid (fun e (he : e ∈ S) => S7.out.apart (A := [_, _, _, _, _]) (e := bt d [7, 7]) (by simp) (SM.out e he))
      have RL := Lib.hid (RdL.lit (xs := [d]) (bs := [s1, s2]) (L := [[3, 0], [1, 128]]) S7.out rfl mem0 (by intro e he; simp only [ents, List.zipWith_cons_cons, List.zipWith_nil_right, List.mem_cons, List.not_mem_nil, or_false] at he; rcases he with rfl | rfl <;> simp) (by have := S7.out.ne 0 4 rfl rfl (by decide); simpa using this) (by have h1 := S7.out.ne 1 4 rfl rfl (by decide); have h2 := S7.out.ne 2 4 rfl rfl (by decide); simp at h1 h2; simp [h1, h2]))
      go_wp2_with fail
      refine (dot_ok SE.out (fun e he => HSB.out e he) (fun e he => (HAP.out e he).symm) (S7.out.blk mem4) (by decide) (B8.of_all (by decide)) (by decide) (row := [1, 2]) rfl (S7.out.rd mem3) (Off.some (by have := S7.out.ne 3 4 rfl rfl (by decide); simpa using this)) (B8.of_all (by decide)) rfl ⟨by decide, by simp⟩ RL.out (by intro l hl; simp at hl; rcases hl with rfl | rfl <;> exact B8.of_all (by decide)) (by decide) ⟨rfl, by simp⟩).mono ?_
      rintro e w8 ⟨rfl, hh⟩
      have h8 := S7.out.callN (N1 := [_, _, _, _]) hh; clear hh S7
      try simp only [List.nil_append, List.cons_append, List.append_eq, Int.toNat_natCast] at h8
      have S8 := Lib.hid h8; clear h8
      have h9 := S8.out
      rw [fix29, wr_all _ _ (by decide)] at h9
      have S9 := Lib.hid h9; clear h9 S8
      go_wp2_with ((with_reducible refine at_slot (N := 28) rfl ?_); refine evg rfl (bslice_run _ 5 2 _ (row .u8 [1, 29]) rfl (fun _ => by kernel_rfl)) ?_; have h10 := S9.out.alloc 5 (row .u8 [1, 29]); (try simp only [World.size_alloc, List.nil_append, List.cons_append, List.append_eq] at h10); have S10 := Lib.hid h10; clear h10 S9)
      refine (equal_same (l := [1, 29]) rfl (by decide) (B8.of_all (by decide)) (S10.out.rd (b := d) (t := 5) (by simp)) (S10.out.rd mem0)).mono ?_
      rintro e _ ⟨rfl, n11, rfl⟩
      have h11 := S10.out.drewN (n := n11); clear S10
      have S11 := Lib.hid h11; clear h11
      go_wp2_with fail
      refine ⟨⟨i + 1, by omega, by simp, S11.out.drop (.cons _ (.cons _ (.cons _ (.cons _ (.cons _ (.cons _ (List.Sublist.refl _)))))))⟩, ?_⟩
      simp [intOf]; omega
    · obtain rfl : i = 3 := by omega
      go_wp2_with fail
      go_ret
      exact ⟨rfl, S2.out.nil⟩

end Go.Proofs.Ytdbfkjhdnbmpeaa.Sk
