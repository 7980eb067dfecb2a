/- Layer 9: the law KernelLives: Dot and Spread over the others; played. -/
import Derived.Test.YtdbfkjhdnbmpeaaVg

namespace Go.Proofs.Ytdbfkjhdnbmpeaa.Sk
set_option linter.unusedSimpArgs false
set_option linter.unusedVariables false
open Go Go.RowKit Go.Proofs.Ytdbfkjhdnbmpeaa Go.Proofs.Ytdbfkjhdnbmpeaa.Mm Go.Proofs.Ytdbfkjhdnbmpeaa.Gf Go.Proofs.Ytdbfkjhdnbmpeaa.Wr Go.Proofs.Ytdbfkjhdnbmpeaa.Nb Go.Proofs.Ytdbfkjhdnbmpeaa.St

/-- The byte of a row, 1 where it is too short. -/
def atB (row : List Nat) (i : Nat) : Nat := if i < row.length then row.getD i 0 else 1
theorem atB_lt {row : List Nat} (h : B8 row) (i : Nat) : atB row i < 256 := by
  unfold atB; split
  · exact get_lt h i
  · decide
/-- .. for each of N slices but the k-th. -/
def rowX (row : List Nat) (N k : Nat) : List Nat := ((List.range N).map (atB row)).eraseIdx k
theorem rowX_b8 {row : List Nat} (h : B8 row) (N k : Nat) : B8 (rowX row N k) := fun x hx => by
  obtain ⟨i, _, rfl⟩ := List.mem_map.1 (List.mem_of_mem_eraseIdx hx)
  exact atB_lt h i
theorem rowX_length {row : List Nat} {N k : Nat} (h : k < N) : (rowX row N k).length = N - 1 := by
  unfold rowX; rw [List.length_eraseIdx]; simp [h]
/-- What a step makes of the slices, and its error. -/
def stepL (k : Int) (c to fr : Nat) (row : List Nat) (f t : Int) (L : List (List Nat)) : List (List Nat) :=
  if k = 0 then L.set to (mulD c (L.getD to []) (L.getD fr []))
  else if k = 1 then L.set to (addD c (L.getD to []) (L.getD fr []))
  else if k = 2 then L.set to (xorD (L.getD to []) (L.getD fr []))
  else if k = 3 then L.set to (dotD (rowX row L.length to) (L.eraseIdx to) (L.getD to []))
  else if k = 4 then (sprD (rowX row L.length fr) (L.getD fr []) (L.eraseIdx fr) f t).insertIdx fr (L.getD fr [])
  else L
def stepE (k : Int) (to fr : Nat) (row : List Nat) (f t : Int) (L : List (List Nat)) : Int :=
  if k = 0 ∨ k = 1 ∨ k = 2 then lenE (L.getD to []).length (L.getD fr []).length
  else if k = 3 then dotE (rowX row L.length to) (L.eraseIdx to) (L.getD to []).length
  else if k = 4 then sprE (rowX row L.length fr) (L.getD fr []) (L.eraseIdx fr) f t
  else 0

theorem take_erase_ne {α : Type} {l : List α} {i k : Nat} (hi : i < l.length) (h : i ≠ k) : (l.take (i + 1)).eraseIdx k = (l.take i).eraseIdx k ++ [l[i]] := by
  rw [List.take_succ_eq_append_getElem hi]
  have hl : (l.take i).length = i := by rw [List.length_take]; omega
  rcases Nat.lt_or_ge k i with h1 | h1
  · rw [List.eraseIdx_append_of_lt_length (by omega)]
  · rw [List.eraseIdx_of_length_le (by rw [List.length_append, hl]; simp; omega), List.eraseIdx_of_length_le (by omega)]
theorem take_erase_eq {α : Type} {l : List α} {i : Nat} (hi : i < l.length) : (l.take (i + 1)).eraseIdx i = (l.take i).eraseIdx i := by
  have hl : (l.take i).length = i := by rw [List.length_take]; omega
  have e1 : (l.take i).eraseIdx i = l.take i := List.eraseIdx_of_length_le (by omega)
  rw [e1, List.take_succ_eq_append_getElem hi, List.eraseIdx_append_of_length_le (by omega), hl, Nat.sub_self]
  simp

set_option maxRecDepth 100000 in
theorem at_st {A : Option Addr} {m c i : Nat} {row : List Nat} {w : World} (hm : row.length = m) (h : Rd w A row) :
    Calls Try.prog 45 #[.slice A m c, .int .i64 (i : Int)] w fun e w' => e = .returned (.int .u8 ((atB row i : Nat) : Int)) ∧ w = w' := by
  by_cases hi : i < m
  · have HA : Hid (atB row i = row.getD i 0) := Lib.hid (by unfold atB; rw [if_pos (by omega)])
    obtain ⟨b, o, e, k⟩ := h (by omega)
    have x := k i (by omega)
    subst e
    clear k h
    rw [HA.out]
    generalize row.getD i 0 = v at *
    have i1 : (i : Int) < (m : Int) := by omega
    go_enter Try.func45, Try.ntmps45
    go_wp2
    go_ret
    exact ⟨rfl, rfl⟩
  · have HA : Hid (atB row i = 1) := Lib.hid (by unfold atB; rw [if_neg (by omega)])
    rw [HA.out]
    have d0 : decide ((i : Int) < (m : Int)) = false := by simp; omega
    have d0' : decide (i < m) = false := by simp; omega
    go_enter Try.func45, Try.ntmps45
    go_wp2
    go_ret
    exact ⟨rfl, rfl⟩

set_option maxRecDepth 100000 in
set_option maxHeartbeats 4000000 in
theorem others_st {A AR : Option Addr} {n c m cR k : Nat} {ds : List Sd} {row : List Nat} {w : World} (hn : ds.length = n) (hb : n * 24 ≤ 140737488351232) (hm : row.length = m) (hr : Rd w AR row) (h8 : B8 row) (h : RdV es w A ds) :
    Calls Try.prog 36 #[.slice A n c, .int .i64 (k : Int), .slice AR m cR] w fun e w' => ∃ A1 c1 A2 c2 G1 G2, e = .returned (.tuple #[.slice A1 (ds.eraseIdx k).length c1, .slice A2 (rowX row n k).length c2]) ∧ GrowV es 39 (.slice A1 (ds.eraseIdx k).length c1) (ds.eraseIdx k) G1 ∧ GrowB (.slice A2 (rowX row n k).length c2) (rowX row n k) G2 ∧ ((ds.eraseIdx k).length = 0 → A1 = none) ∧ ((rowX row n k).length = 0 → A2 = none) ∧ St w w' [] (G1 ++ G2) := by
  have HN := Lib.hid hn; have HM := Lib.hid hm; have HR := Lib.hid hr; have H8 := Lib.hid h8; have HD := Lib.hid h
  have S0 := Lib.hid (St.start w)
  clear hn hm hr h8 h
  obtain ⟨bs, HAS⟩ : ∃ bs, Hid ((List.range n).map (atB row) = bs) := ⟨_, Lib.hid rfl⟩
  have HAL : Hid (bs.length = n) := Lib.hid (by rw [← HAS.out]; simp)
  have HAG : Hid (∀ i, (h : i < bs.length) → bs[i] = atB row i) := Lib.hid (fun i h => by simp [← HAS.out])
  have HRX : Hid (rowX row n k = bs.eraseIdx k) := Lib.hid (by unfold rowX; rw [HAS.out])
  rw [HRX.out]
  clear HRX HAS
  go_enter Try.func36, Try.ntmps36
  go_wp2_with fail
  go_loopw [8, 9, 14] (fun vo vr vi wr => ∃ (i : Nat) (A1 A2 : Option Addr) (c1 c2 : Nat) (G1 G2 : List Ent), i ≤ n ∧ vi = .int .i64 i ∧ vo = .slice A1 ((ds.take i).eraseIdx k).length c1 ∧ vr = .slice A2 ((bs.take i).eraseIdx k).length c2 ∧ GrowV es 39 vo ((ds.take i).eraseIdx k) G1 ∧ GrowB vr ((bs.take i).eraseIdx k) G2 ∧ (((ds.take i).eraseIdx k).length = 0 → A1 = none) ∧ (((bs.take i).eraseIdx k).length = 0 → A2 = none) ∧ St w wr [] (G1 ++ G2)) (fun _ _ vi _ => n - (intOf vi).toNat)
  case atStart => exact ⟨0, none, none, 0, 0, [], [], by omega, rfl, rfl, rfl, GrowV.nil, GrowB.nil, fun _ => rfl, fun _ => rfl, S0.out⟩
  case round =>
    clear S0
    obtain ⟨i, A1, A2, c1, c2, G1, G2, hi, rfl, rfl, rfl, hg1, hg2, hz1, hz2, hs⟩ := hrel
    have S1 := Lib.hid hs; have HZ1 := Lib.hid hz1; have HZ2 := Lib.hid hz2; clear hz1 hz2; have HG1 := Lib.hid hg1; have HG2 := Lib.hid hg2; clear hs hg1 hg2
    by_cases hlt : i < n
    · obtain ⟨ba, oa, eA, ks⟩ := (RdV.below HD.out S1.out.below) (by rw [HN.out]; omega)
      have hds : i < ds.length := by rw [HN.out]; exact hlt
      have hal : i < bs.length := by rw [HAL.out]; exact hlt
      have ms := ks i ds[i] (by simp [hds])
      subst eA
      clear ks
      have i1 : (i : Int) < (n : Int) := by omega
      by_cases hik : i = k
      · have HE1 := Lib.hid (take_erase_eq (l := ds) hds); have HE2 := Lib.hid (take_erase_eq (l := bs) hal)
        subst hik
        generalize ds[i] = d at *
        simp only [es] at ms
        go_wp2_with fail
        clear ms
        refine ⟨⟨i + 1, A1, A2, c1, c2, G1, G2, by omega, by simp, by rw [HE1.out], by rw [HE2.out], by rw [HE1.out]; exact HG1.out, by rw [HE2.out]; exact HG2.out, by rw [HE1.out]; exact HZ1.out, by rw [HE2.out]; exact HZ2.out, S1.out⟩, by simp [intOf]; omega⟩
      · have HE1 := Lib.hid (take_erase_ne (l := ds) hds hik); have HE2 := Lib.hid (take_erase_ne (l := bs) hal hik)
        rw [HAG.out i hal] at HE2
        have v8 := atB_lt H8.out i
        have q1 : ((i : Int) == (k : Int)) = false := by rw [beq_eq_false_iff_ne]; omega
        have q2 : ((i : Int) != (k : Int)) = true := by rw [bne_iff_ne]; omega
        have q3 : (i == k) = false := by simpa using hik
        have q4 : (i != k) = true := by rw [bne_iff_ne]; exact hik
        have b1 : ((ds.take i).eraseIdx k).length ≤ i := by rw [List.length_eraseIdx]; split <;> rw [List.length_take] <;> omega
        have b2 : ((bs.take i).eraseIdx k).length ≤ i := by rw [List.length_eraseIdx]; split <;> rw [List.length_take] <;> omega
        have HRi := Lib.hid (S1.out.ext HR.out)
        generalize (ds.take i).eraseIdx k = D1 at *
        generalize (bs.take i).eraseIdx k = D2 at *
        generalize ds[i] = d at *
        obtain ⟨d1, d2, d3⟩ := d
        simp only [es] at ms
        have HAT : Hid (∀ (w' : World) (N : List Ent), St w w' [] N → Calls Try.prog 45 #[.slice AR m cR, .int .i64 (i : Int)] w' fun e w'' => e = .returned (.int .u8 ((atB row i : Nat) : Int)) ∧ w' = w'') := Lib.hid (fun w' N h => at_st HM.out (h.ext HR.out))
        generalize atB row i = x at *
        clear hik hds hal HRi
        go_wp2_with (first
          | ((with_reducible refine at_slot (N := 24) rfl ?_); refine bslice_st rfl _ 39 1 _ (cellsV es [⟨d1, d2, d3⟩]) rfl (fun _ => by kernel_rfl) S1.out ?_; intro sb w2 h2; (try simp only [World.size_alloc, List.nil_append, List.cons_append, List.append_eq] at h2); have S2 := Lib.hid h2; clear h2 S1)
          | ((with_reducible refine at_slot (N := 25) rfl ?_); refine append_v (enc := es) (G := G1) (N := G2) rfl _ _ 22 rfl ⟨none, 0, 0⟩ 24 Try.underlying22 info_sl9 rfl (fun _ => rfl) (.slice A1 D1.length c1) D1 rfl (S2.out.drop (List.sublist_cons_self _ _)) HG1.out (some ⟨sb, 0, none⟩) 1 1 [⟨d1, d2, d3⟩] rfl rfl (S2.out.rdV (t := 39) mem0) (by show (D1.length + 1) * 24 ≤ _; omega) (by show D1.length + 1 ≤ _; unfold maxLen; omega) ?_; intro v9 w3 G3 h3 hg hz; obtain ⟨A3, c3, rfl⟩ := hg.shape; have HG3 := Lib.hid hg; clear hg hz; (try simp only [World.size_alloc, List.nil_append, List.cons_append, List.append_eq] at h3); have S3 := Lib.hid h3; clear h3 S2))
        refine (HAT.out _ _ S3.out).mono ?_
        rintro e _ ⟨rfl, rfl⟩
        go_wp2_with (first
          | ((with_reducible refine at_slot (N := 30) rfl ?_); refine ev rfl (bslice_run _ 5 1 _ (Mm.row .u8 [x]) rfl (fun _ => by kernel_rfl)) ?_; have h4 := S3.out.alloc 5 (Mm.row .u8 [x]); (try simp only [World.size_alloc, List.nil_append, List.cons_append, List.append_eq] at h4); have S4 := Lib.hid h4; clear h4 S3)
          | ((with_reducible refine at_slot (N := 31) rfl ?_); refine append_bytes (G := G2) (N := G3) rfl _ _ rfl (.slice A2 D2.length c2) D2 rfl ((S4.out.drop (List.sublist_cons_self _ _)).perm List.perm_append_comm) HG2.out (some ⟨w3.heap.size, 0, none⟩) 1 1 [x] rfl rfl (S4.out.rd mem0) (fun y hy => by rw [List.mem_singleton.1 hy]; exact v8) (by show D2.length + 1 ≤ _; omega) ?_; intro v8' w5 G4 h5 hg hz; obtain ⟨A4, c4, rfl⟩ := hg.shape; have HG4 := Lib.hid hg; clear hg hz; (try simp only [World.size_alloc, List.nil_append, List.cons_append, List.append_eq] at h5); have S5 := Lib.hid h5; clear h5 S4))
        have S9 := Lib.hid (S5.out.perm List.perm_append_comm)
        have hg3 := HG3.out; have hg4 := HG4.out
        rw [List.length_append] at hg3 hg4
        have HG5 := Lib.hid hg3; have HG6 := Lib.hid hg4
        clear hg3 hg4 HG3 HG4
        refine ⟨⟨i + 1, A3, A4, c3, c4, G3, G4, by omega, by simp, by rw [HE1.out, List.length_append]; rfl, by rw [HE2.out, List.length_append]; rfl, by rw [HE1.out]; exact HG5.out, by rw [HE2.out]; exact HG6.out, fun h => ?_, fun h => ?_, S9.out⟩, by simp [intOf]; omega⟩
        · rw [HE1.out] at h; simp at h
        · rw [HE2.out] at h; simp at h
    · have ein : i = n := by omega
      have d0 : decide ((i : Int) < (n : Int)) = false := by simp; omega
      have d0' : decide (i < n) = false := by simp; omega
      have e1 : ds.take i = ds := List.take_of_length_le (by rw [HN.out]; omega)
      have e2 : bs.take i = bs := List.take_of_length_le (by rw [HAL.out]; omega)
      rw [e1] at HG1 HZ1; rw [e2] at HG2 HZ2
      rw [e1, e2]
      clear e1 e2
      go_wp2_with fail
      go_ret2
      exact ⟨A1, c1, A2, c2, G1, G2, by rfl, HG1.out, HG2.out, HZ1.out, HZ2.out, S1.out⟩

end Go.Proofs.Ytdbfkjhdnbmpeaa.Sk

namespace Go.Proofs.Ytdbfkjhdnbmpeaa.Sk
set_option linter.unusedSimpArgs false
set_option linter.unusedVariables false
open Go Go.RowKit Go.Proofs.Ytdbfkjhdnbmpeaa Go.Proofs.Ytdbfkjhdnbmpeaa.Mm Go.Proofs.Ytdbfkjhdnbmpeaa.Gf Go.Proofs.Ytdbfkjhdnbmpeaa.Wr Go.Proofs.Ytdbfkjhdnbmpeaa.Nb Go.Proofs.Ytdbfkjhdnbmpeaa.St

theorem zip_erase {α β γ : Type} (f : α → β → γ) : ∀ (bs : List α) (L : List β) (i : Nat), (List.zipWith f bs L).eraseIdx i = List.zipWith f (bs.eraseIdx i) (L.eraseIdx i)
  | [], L, i => by simp
  | b :: bs, [], i => by cases i <;> simp
  | b :: bs, l :: L, 0 => rfl
  | b :: bs, l :: L, i + 1 => by
    show f b l :: (List.zipWith f bs L).eraseIdx i = f b l :: List.zipWith f (bs.eraseIdx i) (L.eraseIdx i)
    rw [zip_erase f bs L i]
theorem sds_erase (bs : List Nat) (L : List (List Nat)) (i : Nat) : (sds bs L).eraseIdx i = sds (bs.eraseIdx i) (L.eraseIdx i) := zip_erase _ bs L i
theorem set_ins {α : Type} (x : α) : ∀ (L : List α) (i : Nat), i < L.length → L.set i x = (L.eraseIdx i).insertIdx i x
  | [], i, h => by simp at h
  | l :: L, 0, _ => rfl
  | l :: L, i + 1, h => by
    show l :: L.set i x = (l :: L.eraseIdx i).insertIdx (i + 1) x
    rw [set_ins x L i (by simpa using h)]; rfl
theorem self_ins {L : List (List Nat)} {i : Nat} (h : i < L.length) : L = (L.eraseIdx i).insertIdx i (L.getD i []) := by
  rw [← set_ins _ L i h]
  have e : L.getD i [] = L[i] := by simp [h]
  rw [e, List.set_getElem_self]
theorem ents_ins : ∀ {bs : List Nat} {L : List (List Nat)} {i : Nat} {x : List Nat}, i < bs.length → L.length + 1 = bs.length → (ents bs (L.insertIdx i x)).Perm (bt (bs.getD i 0) x :: ents (bs.eraseIdx i) L)
  | [], _, _, _, h, _ => by simp at h
  | b :: bs, L, 0, x, _, _ => List.Perm.refl _
  | b :: bs, [], i + 1, x, h1, h2 => by simp only [List.length_cons, List.length_nil] at h1 h2; omega
  | b :: bs, l :: L, i + 1, x, h1, h2 => by
    have ih := ents_ins (bs := bs) (L := L) (i := i) (x := x) (by simpa using h1) (by simpa using h2)
    exact (ih.cons (bt b l)).trans (List.Perm.swap _ _ _)
theorem er_perm {bs : List Nat} {L : List (List Nat)} {i : Nat} {x : List Nat} (GH M : List Ent) (h1 : i < bs.length) (h2 : L.length + 1 = bs.length) : (GH ++ (ents bs (L.insertIdx i x) ++ M)).Perm ((ents (bs.eraseIdx i) L ++ GH) ++ bt (bs.getD i 0) x :: M) := by
  refine (List.Perm.append_left GH ((ents_ins h1 h2).append_right M)).trans ?_
  have a1 : (GH ++ (bt (bs.getD i 0) x :: ents (bs.eraseIdx i) L ++ M)).Perm (bt (bs.getD i 0) x :: (GH ++ (ents (bs.eraseIdx i) L ++ M))) := List.perm_middle
  refine a1.trans ?_
  refine List.Perm.trans ?_ List.perm_middle.symm
  refine List.Perm.cons _ ?_
  rw [← List.append_assoc]
  exact List.perm_append_comm.append_right M

section
variable {p j : Nat} {S PR M MX GH : List Ent} {w0 w : World} {a b n m to fr c : Nat} {D l : List Nat} {bs : List Nat} {L : List (List Nat)}
theorem er_of (h : St w0 w [] (GH ++ (ents bs L ++ MX))) (hb : bs.length = L.length) (hi : to < L.length) : St w0 w [] ((ents (bs.eraseIdx to) (L.eraseIdx to) ++ GH) ++ bt (bs.getD to 0) (L.getD to []) :: MX) := by
  rw [self_ins hi] at h
  exact h.perm (er_perm GH MX (by omega) (by rw [List.length_eraseIdx, if_pos hi]; omega))
theorem er_back {L' : List (List Nat)} {x : List Nat} (h : St w0 w [] ((ents (bs.eraseIdx to) L' ++ GH) ++ bt (bs.getD to 0) x :: MX)) (hi : to < bs.length) (hl : L'.length + 1 = bs.length) : St w0 w [] (GH ++ (ents bs (L'.insertIdx to x) ++ MX)) :=
  h.perm (er_perm GH MX hi hl).symm
theorem er_set {x : List Nat} (h : St w0 w [] ((ents (bs.eraseIdx to) (L.eraseIdx to) ++ GH) ++ bt (bs.getD to 0) x :: MX)) (hb : bs.length = L.length) (hi : to < L.length) : St w0 w [] (GH ++ (ents bs (L.set to x) ++ MX)) := by
  rw [set_ins x L to hi]
  exact er_back h (by omega) (by rw [List.length_eraseIdx, if_pos hi]; omega)
/-- Another of the slices lies beside. -/
theorem er_mem (hb : bs.length = L.length) (hi : fr < L.length) (hne : fr ≠ to) : bt (bs.getD fr 0) (L.getD fr []) ∈ ents (bs.eraseIdx to) (L.eraseIdx to) := by
  have e : ents (bs.eraseIdx to) (L.eraseIdx to) = (ents bs L).eraseIdx to := (zip_erase _ bs L to).symm
  rw [e]
  have hm : (ents bs L)[fr]? = some (bt (bs.getD fr 0) (L.getD fr [])) := ents_get hb hi
  rcases Nat.lt_or_ge fr to with h | h
  · refine List.mem_of_getElem? (i := fr) ?_
    rw [List.getElem?_eraseIdx, if_pos h]; exact hm
  · refine List.mem_of_getElem? (i := fr - 1) ?_
    rw [List.getElem?_eraseIdx, if_neg (by omega), show fr - 1 + 1 = fr by omega]; exact hm

theorem mulT (SE : SetE p j S) (h : St w0 w [] (PR ++ bt a D :: M)) (hS : ∀ e ∈ S, e ∈ M) (hb : bt b l ∈ PR ∨ (b = a ∧ l = D)) (hc : c < 256) (hD : D.length = n) (h8D : B8 D) (hl : l.length = m) (h8 : B8 l) (hn : n ≤ 140737488351232) :
    Calls Try.prog 26 #[.pointer (some ⟨p, 0, none⟩), .int .u8 (c : Int), .slice (some ⟨a, 0, none⟩) n n, .slice (some ⟨b, 0, none⟩) m m] w fun e w' => e = .returned (.int .i64 (lenE n m)) ∧ St w0 w' [] (PR ++ bt a (mulD c D l) :: M) := by
  rcases hb with hb | ⟨rfl, rfl⟩
  · exact mulH SE h hS hb hc hD h8D hl h8 hn
  · obtain rfl : n = m := by omega
    unfold lenE mulD
    rw [if_pos rfl, if_pos rfl]
    refine (smul_at (c := (c : Int)) (od := 0) (cd := n) (cs := n) SE (There.of h (fun e he => by simp [hS e he])) (SE.ne h (fun e he => by simp [hS e he]) (b := b) (l := l) (by simp)) (by omega) (by omega) (h.blk (by simp)) (by omega) hl h8 h8D (Nat.le_refl _) (Nat.le_refl _) (by omega) (.inr ⟨rfl, fun k _ => by rw [Nat.zero_add]⟩)).mono fun e w' ⟨he, hk⟩ => ⟨he, ?_⟩
    rw [Int.toNat_natCast, wr_all _ _ (by rw [List.length_map])] at hk
    exact St.doneN (X := []) h hk
theorem addT (SE : SetE p j S) (h : St w0 w [] (PR ++ bt a D :: M)) (hS : ∀ e ∈ S, e ∈ M) (hb : bt b l ∈ PR ∨ (b = a ∧ l = D)) (hc : c < 256) (hD : D.length = n) (h8D : B8 D) (hl : l.length = m) (h8 : B8 l) (hn : n ≤ 140737488351232) :
    Calls Try.prog 17 #[.pointer (some ⟨p, 0, none⟩), .int .u8 (c : Int), .slice (some ⟨a, 0, none⟩) n n, .slice (some ⟨b, 0, none⟩) m m] w fun e w' => e = .returned (.int .i64 (lenE n m)) ∧ St w0 w' [] (PR ++ bt a (addD c D l) :: M) := by
  rcases hb with hb | ⟨rfl, rfl⟩
  · exact addH SE h hS hb hc hD h8D hl h8 hn
  · obtain rfl : n = m := by omega
    unfold lenE addD
    rw [if_pos rfl, if_pos rfl]
    refine (sadd_at (c := (c : Int)) (od := 0) (cd := n) (cs := n) SE (There.of h (fun e he => by simp [hS e he])) (SE.ne h (fun e he => by simp [hS e he]) (b := b) (l := l) (by simp)) (by omega) (by omega) (h.blk (by simp)) (by omega) hl h8 h8D (Nat.le_refl _) (Nat.le_refl _) (by omega) (.inr ⟨rfl, fun k _ => by rw [Nat.zero_add]⟩)).mono fun e w' ⟨he, hk⟩ => ⟨he, ?_⟩
    rw [Int.toNat_natCast, Tk.add_wr hD hl] at hk
    exact St.doneN (X := []) h hk
theorem xorT (h : St w0 w [] (PR ++ bt a D :: M)) (hb : bt b l ∈ PR ∨ (b = a ∧ l = D)) (hD : D.length = n) (h8D : B8 D) (hl : l.length = m) (h8 : B8 l) (hn : n ≤ 140737488351232) :
    Calls Try.prog 22 #[.slice (some ⟨a, 0, none⟩) n n, .slice (some ⟨b, 0, none⟩) m m] w fun e w' => e = .returned (.int .i64 (lenE n m)) ∧ St w0 w' [] (PR ++ bt a (xorD D l) :: M) := by
  rcases hb with hb | ⟨rfl, rfl⟩
  · exact xorH h hb hD h8D hl h8 hn
  · obtain rfl : n = m := by omega
    unfold lenE xorD
    rw [if_pos rfl, if_pos rfl]
    refine (xor_at (D := l) (od := 0) (h.blk (by simp)) (by omega) hl h8 h8D (by omega) (.inr ⟨rfl, fun k _ => by rw [Nat.zero_add]⟩)).mono fun e w' ⟨he, hk⟩ => ⟨he, ?_⟩
    have e1 : ((List.range n).map fun i => l.getD (0 + i) 0 ^^^ l.getD i 0) = xs l l := by
      unfold xs; rw [hD]
      apply List.map_congr_left
      intro i _; rw [Nat.zero_add]
    rw [e1, wr_all _ _ (by rw [xs_length])] at hk
    exact St.doneN (X := []) h hk

/-- Where a growing list lies. -/
theorem grow_off {A : Option Addr} {k cA : Nat} {l xs : List Nat} {G X Y : List Ent} (hg : GrowB (.slice A k cA) l G) (hz : k = 0 → A = none) (h : St w0 w [] (X ++ Y)) (hG : ∀ e ∈ G, e ∈ X) (hx : ∀ b ∈ xs, ∃ e ∈ Y, e.b = b) : Off xs A := by
  rcases hg.2 with ⟨B, e, h0, _⟩ | ⟨g, cap, cur, e, _, _, _, _, _, hGe⟩
  · injection e with e1 e2 e3
    rw [hz e2]; exact Off.none _
  · injection e with e1 e2 e3
    rw [e1]
    refine Off.some fun hb => ?_
    obtain ⟨e', he', hb'⟩ := hx _ hb
    exact h.apart (e := ⟨g, 5, cur⟩) (e' := e') (hG _ (by rw [hGe]; simp)) he' hb'.symm
end

end Go.Proofs.Ytdbfkjhdnbmpeaa.Sk

namespace Go.Proofs.Ytdbfkjhdnbmpeaa.Sk
set_option linter.unusedSimpArgs false
set_option linter.unusedVariables false
open Go Go.RowKit Go.Proofs.Ytdbfkjhdnbmpeaa Go.Proofs.Ytdbfkjhdnbmpeaa.Mm Go.Proofs.Ytdbfkjhdnbmpeaa.Gf Go.Proofs.Ytdbfkjhdnbmpeaa.Wr Go.Proofs.Ytdbfkjhdnbmpeaa.Nb Go.Proofs.Ytdbfkjhdnbmpeaa.St

theorem fit_erase {L : List (List Nat)} (h : Fit L) (i : Nat) : Fit (L.eraseIdx i) :=
  ⟨by have := h.1; have := List.length_eraseIdx_le (l := L) (i := i); omega, fun l hl => h.2 l (List.mem_of_mem_eraseIdx hl)⟩
theorem b8_erase {L : List (List Nat)} (h : B8L L) (i : Nat) : B8L (L.eraseIdx i) := fun l hl => h l (List.mem_of_mem_eraseIdx hl)
section
variable {p j : Nat} {S MX GH G1 G2 : List Ent} {w0 w : World} {n m1 m2 k1 k2 i : Nat} {row : List Nat} {bs : List Nat} {L : List (List Nat)} {A1 A2 : Option Addr}
theorem rest_copy (hb : bs.length = L.length) (hi : i < L.length) (hm1 : m1 = ((sds bs L).eraseIdx i).length) (hg1 : GrowV es 39 (.slice A1 m1 k1) ((sds bs L).eraseIdx i) G1) (hz1 : m1 = 0 → A1 = none) : CopyL A1 m1 k1 (bs.eraseIdx i) (L.eraseIdx i) G1 := by
  have e1 : (bs.eraseIdx i).length = (L.eraseIdx i).length := by rw [List.length_eraseIdx, List.length_eraseIdx, hb]
  refine ⟨e1, ?_, by rw [← sds_erase]; exact hg1, hz1⟩
  rw [hm1, sds_erase, sds_length e1]
theorem rest_state (h : St w0 w [] ((G1 ++ G2) ++ (GH ++ (ents bs L ++ MX)))) (hb : bs.length = L.length) (hi : i < L.length) : St w0 w [] ((G1 ++ G2) ++ ((ents (bs.eraseIdx i) (L.eraseIdx i) ++ GH) ++ bt (bs.getD i 0) (L.getD i []) :: MX)) := by
  have h' := h
  rw [self_ins hi] at h'
  exact h'.perm (List.Perm.append_left _ (er_perm GH MX (by omega) (by rw [List.length_eraseIdx, if_pos hi]; omega)))
theorem step_dot (SE : SetE p j S) (h : St w0 w [] ((G1 ++ G2) ++ (GH ++ (ents bs L ++ MX)))) (hS : ∀ e ∈ S, e ∈ MX) (hb : bs.length = L.length) (hi : i < L.length) (hm1 : m1 = ((sds bs L).eraseIdx i).length) (hg1 : GrowV es 39 (.slice A1 m1 k1) ((sds bs L).eraseIdx i) G1) (hz1 : m1 = 0 → A1 = none) (hm2 : row.length = m2) (hg2 : GrowB (.slice A2 m2 k2) row G2) (hz2 : m2 = 0 → A2 = none) (hf : Fit L) (h8 : B8L L) (h8r : B8 row) (hn : (L.getD i []).length = n) :
    Calls Try.prog 18 #[.pointer (some ⟨p, 0, none⟩), .slice A2 m2 k2, .slice A1 m1 k1, .slice (some ⟨bs.getD i 0, 0, none⟩) n n] w fun e w' => e = .returned (.int .i64 (dotE row (L.eraseIdx i) n)) ∧ St w0 w' [] (GH ++ (ents bs (L.set i (dotD row (L.eraseIdx i) (L.getD i []))) ++ MX)) := by
  have hc := rest_copy hb hi hm1 hg1 hz1
  have h1 := rest_state h hb hi
  have h3 : St w0 w [] (((G1 ++ G2) ++ (ents (bs.eraseIdx i) (L.eraseIdx i) ++ GH)) ++ bt (bs.getD i 0) (L.getD i []) :: MX) := by rw [List.append_assoc]; exact h1
  have hn1 : n ≤ 140737488351232 := by rw [← hn]; exact hf.get i
  have hs : RdL w [bs.getD i 0] A1 (L.eraseIdx i) := by
    refine hc.rd h1 (fun e he => by simp [he]) (fun e he => by simp [he]) (fun e he hm => ?_) (fun b hb hm => ?_)
    · exact h3.apart (e := e) (e' := bt (bs.getD i 0) (L.getD i [])) (by simp [he]) (by simp) (by simpa using hm)
    · obtain ⟨e, he, hbe⟩ := ents_of hc.1 hb
      exact h3.apart (e := e) (e' := bt (bs.getD i 0) (L.getD i [])) (by simp [he]) (by simp) (by rw [hbe]; simpa using hm)
  have hr : Rd w A2 row ∧ Off [bs.getD i 0] A2 := by
    refine ⟨by subst hm2; exact hg2.read h1 (fun e he => by simp [he]), grow_off hg2 hz2 h1 (fun e he => by simp [he]) (fun b hb => ⟨bt (bs.getD i 0) (L.getD i []), by simp, by simp at hb; exact hb.symm⟩)⟩
  unfold dotE dotD
  by_cases hok : DotOk row (L.eraseIdx i) n
  · rw [if_pos hok, if_pos (by rw [hn]; exact hok), hn]
    exact (dotS (X := G1 ++ G2) (M1 := ents (bs.eraseIdx i) (L.eraseIdx i) ++ GH) (M2 := MX) SE h1 (fun e he => by simp [hS e he]) hn (h8.get i) hm2 hr h8r hc.2.1.symm (fit_erase hf i) hs (b8_erase h8 i) hn1 hok).mono fun e w' ⟨he, hk⟩ => ⟨he, er_set hk hb hi⟩
  · rw [if_neg hok, if_neg (by rw [hn]; exact hok)]
    exact (dotB (X := G1 ++ G2) SE h1 (fun e he => by simp [hS e he]) hm2 hc.2.1.symm (fit_erase hf i) (hs.sub (by simp)) hn1 hok).mono fun e w' ⟨he, hk⟩ => ⟨he, er_set hk hb hi⟩
theorem step_spr {f t : Int} (SE : SetE p j S) (h : St w0 w [] ((G1 ++ G2) ++ (GH ++ (ents bs L ++ MX)))) (hS : ∀ e ∈ S, e ∈ MX) (hb : bs.length = L.length) (hi : i < L.length) (hm1 : m1 = ((sds bs L).eraseIdx i).length) (hg1 : GrowV es 39 (.slice A1 m1 k1) ((sds bs L).eraseIdx i) G1) (hz1 : m1 = 0 → A1 = none) (hm2 : row.length = m2) (hg2 : GrowB (.slice A2 m2 k2) row G2) (hz2 : m2 = 0 → A2 = none) (hf : Fit L) (h8 : B8L L) (h8r : B8 row) (hn : (L.getD i []).length = n) :
    Calls Try.prog 19 #[.pointer (some ⟨p, 0, none⟩), .slice A2 m2 k2, .slice (some ⟨bs.getD i 0, 0, none⟩) n n, .slice A1 m1 k1, .agg #[.int .i64 f, .int .i64 t]] w fun e w' => e = .returned (.int .i64 (sprE row (L.getD i []) (L.eraseIdx i) f t)) ∧ St w0 w' [] (GH ++ (ents bs ((sprD row (L.getD i []) (L.eraseIdx i) f t).insertIdx i (L.getD i [])) ++ MX)) := by
  have hc := rest_copy hb hi hm1 hg1 hz1
  have h1 := rest_state h hb hi
  have h2 : St w0 w [] ((G1 ++ G2) ++ ([] ++ (ents (bs.eraseIdx i) (L.eraseIdx i) ++ (GH ++ bt (bs.getD i 0) (L.getD i []) :: MX)))) := by simpa only [List.append_assoc, List.nil_append] using h1
  have h3 : St w0 w [] (((G1 ++ G2) ++ (ents (bs.eraseIdx i) (L.eraseIdx i) ++ GH)) ++ bt (bs.getD i 0) (L.getD i []) :: MX) := by rw [List.append_assoc]; exact h1
  have hn1 : n ≤ 140737488351232 := by rw [← hn]; exact hf.get i
  have hx : ∀ b ∈ bs.eraseIdx i, ∃ e ∈ ([] ++ (ents (bs.eraseIdx i) (L.eraseIdx i) ++ (GH ++ bt (bs.getD i 0) (L.getD i []) :: MX)) : List Ent), e.b = b := fun b hb => by
    obtain ⟨e, he, hbe⟩ := ents_of hc.1 hb
    exact ⟨e, by simp [he], hbe⟩
  have hr : Rd w A2 row ∧ Off (bs.eraseIdx i) A2 := ⟨by subst hm2; exact hg2.read h2 (fun e he => by simp [he]), grow_off hg2 hz2 h2 (fun e he => by simp [he]) hx⟩
  have hs : Rd w (some ⟨bs.getD i 0, 0, none⟩) (L.getD i []) ∧ Off (bs.eraseIdx i) (some ⟨bs.getD i 0, 0, none⟩) := by
    refine ⟨h3.rd (List.mem_append_right _ mem0), Off.some fun hm => ?_⟩
    obtain ⟨e, he, hbe⟩ := ents_of hc.1 hm
    exact h3.apart (e := e) (e' := bt (bs.getD i 0) (L.getD i [])) (by simp [he]) (by simp) hbe
  have ho : Off (bs.eraseIdx i) A1 := hc.off fun e he hm => by
    obtain ⟨e', he', hbe⟩ := hx _ hm
    exact h2.apart (e := e) (e' := e') (by simp [he]) he' hbe.symm
  refine (spreadS (X := G1 ++ G2) (M1 := []) (f := f) (t := t) SE h2 (fun e he => by simp [hS e he]) hm2 hn hc.2.1.symm (fit_erase hf i) hn1 (Nat.le_refl _) h8r (h8.get i) (b8_erase h8 i) hc.1 hr hs (hc.rdV h2 (fun e he => by simp [he])) ho).mono fun e w' ⟨he, hk⟩ => ⟨he, ?_⟩
  have hk2 : St w0 w' [] ((ents (bs.eraseIdx i) (sprD row (L.getD i []) (L.eraseIdx i) f t) ++ GH) ++ bt (bs.getD i 0) (L.getD i []) :: MX) := by simpa only [List.append_assoc, List.nil_append] using hk
  exact er_back hk2 (by omega) (by rw [sprD_length, List.length_eraseIdx, if_pos hi]; omega)
end

end Go.Proofs.Ytdbfkjhdnbmpeaa.Sk
