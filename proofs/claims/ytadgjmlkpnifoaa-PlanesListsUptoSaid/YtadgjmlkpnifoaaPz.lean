/- Layer 8: the law PlanesLists (what is read within the bound): its walk. -/
import Derived.Test.YtadgjmlkpnifoaaQo
import Derived.Test.YtadgjmlkpnifoaaJ5
import Derived.Test.YtadgjmlkpnifoaaPw
import Derived.Test.YtadgjmlkpnifoaaKu
import Derived.Test.YtadgjmlkpnifoaaOb
import Derived.Test.YtadgjmlkpnifoaaLx
namespace Go.Proofs.Ytadgjmlkpnifoaa.Pq
set_option linter.unusedSimpArgs false
set_option linter.unusedVariables false
open Go Go.RowKit Go.Proofs.Ytadgjmlkpnifoaa Go.Proofs.Ytadgjmlkpnifoaa.Mm Go.Proofs.Ytadgjmlkpnifoaa.Gh Go.Proofs.Ytadgjmlkpnifoaa.Wr Go.Proofs.Ytadgjmlkpnifoaa.St

theorem rdHead8 {w0 w : World} {W N : List Ent} {b n : Nat} {s tl : List Nat} (h : St w0 w W N) (hn : s.length = n) (m : bt b (s ++ tl) ∈ N) : Rd w (some ⟨b, 0, none⟩) s := h.rdTake (n := n) m (by subst hn; exact List.take_left)
theorem head_get8 {s tl : List Nat} {j : Nat} (h : j < s.length) : (s ++ tl).getD j 0 = s.getD j 0 := by
  rw [List.getD_eq_getElem?_getD, List.getD_eq_getElem?_getD, List.getElem?_append_left h]
theorem head_set8 {s tl : List Nat} {j v : Nat} (h : j < s.length) : (s ++ tl).set j v = s.set j v ++ tl := List.set_append_left _ _ h
theorem _root_.Go.Proofs.Ytadgjmlkpnifoaa.Mm.Rd.at {w : World} {b i : Nat} {l : List Nat} (h : Rd w (some ⟨b, 0, none⟩) l) (hi : i < l.length) : w.cell? ⟨b, i, none⟩ = some (.int .u8 ((l.getD i 0 : Nat) : Int)) := by
  obtain ⟨b', o', e, k⟩ := h (by omega)
  injection e with e; injection e with e1 e2 _
  subst e1 e2
  have := k i hi
  rw [Nat.zero_add] at this
  exact this
/-- The list with every byte turned by f. -/
def fl (f : Nat) (l : List Nat) : List Nat := l.map (· ^^^ f)
theorem fl_length (f : Nat) (l : List Nat) : (fl f l).length = l.length := by simp [fl]
theorem fl_get {f i : Nat} {l : List Nat} (h : i < l.length) : (fl f l).getD i 0 = l.getD i 0 ^^^ f := by simp [fl, h]
theorem fl_b8 {f : Nat} {l : List Nat} (hf : f < 256) (h : B8 l) : B8 (fl f l) := by
  intro x hx
  obtain ⟨y, hy, rfl⟩ := List.mem_map.1 hx
  exact Nat.xor_lt_two_pow (n := 8) (h y hy) hf
/-- The first j turned. -/
def flk (f : Nat) (l : List Nat) (j : Nat) : List Nat := fl f (l.take j) ++ l.drop j
theorem flk_length (f : Nat) (l : List Nat) (j : Nat) : (flk f l j).length = l.length := by simp [flk, fl_length]; omega
theorem flk_zero (f : Nat) (l : List Nat) : flk f l 0 = l := by simp [flk, fl]
theorem flk_done {f n : Nat} {l : List Nat} (h : l.length = n) : flk f l n = fl f l := by
  subst h; simp [flk]
theorem flk_get {f j : Nat} {l : List Nat} (h : j < l.length) : (flk f l j).getD j 0 = l.getD j 0 := by
  unfold flk
  rw [List.getD_eq_getElem?_getD, List.getElem?_append_right (by rw [fl_length, List.length_take]; omega), fl_length, List.length_take, List.getElem?_drop, List.getD_eq_getElem?_getD]
  congr 2; omega
theorem flk_step {f j : Nat} {l : List Nat} (h : j < l.length) : (flk f l j).set j (l.getD j 0 ^^^ f) = flk f l (j + 1) := by
  unfold flk
  have hl : (fl f (l.take j)).length = j := by rw [fl_length, List.length_take]; omega
  have hg : l.getD j 0 = l[j] := by simp [h]
  rw [List.set_append_right _ _ (by omega), hl, Nat.sub_self, List.drop_eq_getElem_cons h, List.set_cons_zero]
  rw [List.take_add_one, List.getElem?_eq_getElem h, hg]
  simp only [fl, Option.toList_some, List.map_append, List.map_cons, List.map_nil, List.append_assoc, List.cons_append, List.nil_append]
theorem xor_pair {a b c d : Nat} (ha : a < 256) (hc : c < 256) : (a + 256 * b) ^^^ (c + 256 * d) = (a ^^^ c) + 256 * (b ^^^ d) := by
  have e : ∀ x y : Nat, x + 256 * y = 2 ^ 8 * y + x := fun x y => by omega
  rw [e, e, e]
  apply Nat.eq_of_testBit_eq
  intro i
  rw [Nat.testBit_xor, Nat.testBit_two_pow_mul_add _ ha, Nat.testBit_two_pow_mul_add _ hc, Nat.testBit_two_pow_mul_add _ (Nat.xor_lt_two_pow (n := 8) ha hc)]
  by_cases h : i < 8
  · simp [h]
  · simp [h]
theorem wd_fl {f t : Nat} {l : List Nat} (hf : f < 256) (h8 : B8 l) (ht : 2 * t + 1 < l.length) : wd (fl f l) t = wd l t ^^^ (f * 257) := by
  unfold wd
  rw [fl_get (by omega), fl_get ht, show f * 257 = f + 256 * f by omega, xor_pair (get256 h8 _) hf]
theorem lo_get {l : List Nat} {t : Nat} (h : t < l.length / 2) : (lo l).getD t 0 = l.getD (2 * t) 0 := by simp [lo, h]
theorem hi_get {l : List Nat} {t : Nat} (h : t < l.length / 2) : (hi l).getD t 0 = l.getD (2 * t + 1) 0 := by simp [hi, h]
theorem mg_get {a b : List Nat} : ∀ {k i : Nat}, i < k → (mg a b k).getD (2 * i) 0 = a.getD i 0 ∧ (mg a b k).getD (2 * i + 1) 0 = b.getD i 0
  | 0, _, h => by omega
  | k + 1, i, h => by
    rw [mg_succ]
    by_cases hi : i < k
    · have := mg_get (a := a) (b := b) hi
      exact ⟨by rw [List.getD_eq_getElem?_getD, List.getElem?_append_left (by rw [mg_length]; omega), ← List.getD_eq_getElem?_getD]; exact this.1, by rw [List.getD_eq_getElem?_getD, List.getElem?_append_left (by rw [mg_length]; omega), ← List.getD_eq_getElem?_getD]; exact this.2⟩
    · obtain rfl : i = k := by omega
      refine ⟨?_, ?_⟩
      · rw [List.getD_eq_getElem?_getD, List.getElem?_append_right (by rw [mg_length]; exact Nat.le_refl _), mg_length, Nat.sub_self]; rfl
      · rw [List.getD_eq_getElem?_getD, List.getElem?_append_right (by rw [mg_length]; omega), mg_length, show 2 * i + 1 - 2 * i = 1 by omega]; rfl
theorem ws_getD {l : List Nat} {t : Nat} (h : t < l.length / 2) : (ws l).getD t 0 = wd l t := by
  rw [List.getD_eq_getElem?_getD, ws_get h]; rfl

theorem bs_ws {l : List Nat} {n : Nat} (hl : l.length = 2 * n) (h8 : B8 l) : bs (ws l) = l := by
  have key : ∀ k, k ≤ n → bs ((ws l).take k) = l.take (2 * k) := by
    intro k
    induction k with
    | zero => intro _; rfl
    | succ k ih =>
      intro hk
      have hk2 : k < l.length / 2 := by omega
      rw [take_snoc (ws_get hk2), bs_snoc, ih (by omega)]
      have a1 := get256 h8 (2 * k)
      have a2 := get256 h8 (2 * k + 1)
      have e1 : wd l k % 256 = l.getD (2 * k) 0 := by unfold wd; omega
      have e2 : wd l k / 256 = l.getD (2 * k + 1) 0 := by unfold wd; omega
      rw [e1, e2, show 2 * (k + 1) = 2 * k + 1 + 1 by omega]
      have g1 : l[2 * k]? = some (l.getD (2 * k) 0) := by simp [show 2 * k < l.length by omega]
      have g2 : l[2 * k + 1]? = some (l.getD (2 * k + 1) 0) := by simp [show 2 * k + 1 < l.length by omega]
      rw [take_snoc g2, take_snoc g1, List.append_assoc]
      rfl
  have := key n (Nat.le_refl _)
  rw [List.take_of_length_le (by rw [ws_length]; omega), List.take_of_length_le (by omega)] at this
  exact this
theorem qs_len8 (c i : Nat) : ((qs c 4).getD i []).length ≤ 281474976710656 := by
  by_cases h : i < 4
  · rw [qs_get h, qr_length]; decide
  · simp [qs, List.getD_eq_getElem?_getD, h]
theorem rdq_own {w0 w : World} {W N : List Ent} {b c : Nat} {ds : List Sd} {Gs : List (List Ent)} (h4 : ds.length = 4) (hF : Fam 4 (Own e16 23 ds (fun k l => l = qr c k)) Gs) (hs : St w0 w W N) (hm1 : (⟨b, 36, cellsV es ds⟩ : Ent) ∈ N) (hm2 : ∀ e ∈ Gs.flatten, e ∈ N) : RdQ w (some ⟨b, 0, none⟩) (qs c 4) := by
  refine ⟨ds, hs.rdV hm1, by rw [h4, qs_length], fun i d hd => ?_⟩
  have hi : i < 4 := by rw [← h4]; exact (List.getElem?_eq_some_iff.1 hd).1
  obtain ⟨G, _, ⟨d', l, h1, rfl, h3⟩, hm⟩ := hF.get hi
  rw [hd] at h1; injection h1 with h1; subst h1
  rw [qs_get hi]
  exact ⟨h3.len, (Grow.hold h3).rd hs (fun e he => hm2 e (hm e he))⟩

theorem own_b {ds : List Sd} {k n c : Nat} {A : Option Addr} {l : List Nat} {G : List Ent} (hd : ds[k]? = some ⟨A, n, c⟩) (hg : GrowB (.slice A n c) l G) (hn : l.length = n) (hb : n ≤ 4194304) : Own e8 5 ds (fun _ l => l.length ≤ 4194304) k G := ⟨_, l, hd, by show l.length ≤ 4194304; rw [hn]; exact hb, hg.toV⟩
theorem own_w {ds : List Sd} {k b n : Nat} {l : List Nat} (hd : ds[k]? = some ⟨some ⟨b, 0, none⟩, n, n⟩) (hn : l.length = n) (hb : n ≤ 4194304) : Own e16 23 ds (fun _ l => l.length ≤ 4194304) k [⟨b, 23, row .u16 l⟩] := ⟨_, l, hd, by show l.length ≤ 4194304; rw [hn]; exact hb, GrowV.of_blk (by rw [hn]; exact Nat.le_refl _) hn (by show n ≤ maxLen; unfold maxLen; omega) (List.take_of_length_le (by rw [hn]; exact Nat.le_refl _)) hn⟩

section
open Classical
/-- How often a stands in the list. -/
noncomputable def cnt (a : Ent) (l : List Ent) : Nat := List.count a l
noncomputable def cn (a b : Ent) : Nat := if b == a then 1 else 0
theorem cnt_nil (a : Ent) : cnt a [] = 0 := List.count_nil
theorem cnt_cons (a b : Ent) (l : List Ent) : cnt a (b :: l) = cn a b + cnt a l := by unfold cnt cn; rw [List.count_cons, Nat.add_comm]
theorem cnt_append (a : Ent) (l k : List Ent) : cnt a (l ++ k) = cnt a l + cnt a k := List.count_append
theorem perm_of {l k : List Ent} (h : ∀ a, cnt a l = cnt a k) : l.Perm k := List.perm_iff_count.2 h
end

theorem fam11 {A1 A2 A3 A4 A5 A6 A7 A8 A9 A10 A11 : Option Addr} {n1 n2 n3 n4 n5 n6 n7 n8 n9 n10 n11 c1 c2 c3 c4 c5 c6 c7 c8 c9 c10 c11 : Nat} {l1 l2 l3 l4 l5 l6 l7 l8 l9 l10 l11 : List Nat} {G1 G2 G3 G4 G5 G6 G7 G8 G9 G10 G11 : List Ent}
    (h1 : GrowB (.slice A1 n1 c1) l1 G1 ∧ l1.length = n1 ∧ n1 ≤ 4194304) (h2 : GrowB (.slice A2 n2 c2) l2 G2 ∧ l2.length = n2 ∧ n2 ≤ 4194304) (h3 : GrowB (.slice A3 n3 c3) l3 G3 ∧ l3.length = n3 ∧ n3 ≤ 4194304) (h4 : GrowB (.slice A4 n4 c4) l4 G4 ∧ l4.length = n4 ∧ n4 ≤ 4194304) (h5 : GrowB (.slice A5 n5 c5) l5 G5 ∧ l5.length = n5 ∧ n5 ≤ 4194304) (h6 : GrowB (.slice A6 n6 c6) l6 G6 ∧ l6.length = n6 ∧ n6 ≤ 4194304) (h7 : GrowB (.slice A7 n7 c7) l7 G7 ∧ l7.length = n7 ∧ n7 ≤ 4194304) (h8 : GrowB (.slice A8 n8 c8) l8 G8 ∧ l8.length = n8 ∧ n8 ≤ 4194304) (h9 : GrowB (.slice A9 n9 c9) l9 G9 ∧ l9.length = n9 ∧ n9 ≤ 4194304) (h10 : GrowB (.slice A10 n10 c10) l10 G10 ∧ l10.length = n10 ∧ n10 ≤ 4194304) (h11 : GrowB (.slice A11 n11 c11) l11 G11 ∧ l11.length = n11 ∧ n11 ≤ 4194304) :
    Fam 11 (Own e8 5 [⟨A1, n1, c1⟩, ⟨A2, n2, c2⟩, ⟨A3, n3, c3⟩, ⟨A4, n4, c4⟩, ⟨A5, n5, c5⟩, ⟨A6, n6, c6⟩, ⟨A7, n7, c7⟩, ⟨A8, n8, c8⟩, ⟨A9, n9, c9⟩, ⟨A10, n10, c10⟩, ⟨A11, n11, c11⟩] (fun _ l => l.length ≤ 4194304)) [G1, G2, G3, G4, G5, G6, G7, G8, G9, G10, G11] := by
  refine ⟨rfl, fun i G h => ?_⟩
  match i, h with
  | 0, h => injection h with h; subst h; exact own_b rfl h1.1 h1.2.1 h1.2.2
  | 1, h => injection h with h; subst h; exact own_b rfl h2.1 h2.2.1 h2.2.2
  | 2, h => injection h with h; subst h; exact own_b rfl h3.1 h3.2.1 h3.2.2
  | 3, h => injection h with h; subst h; exact own_b rfl h4.1 h4.2.1 h4.2.2
  | 4, h => injection h with h; subst h; exact own_b rfl h5.1 h5.2.1 h5.2.2
  | 5, h => injection h with h; subst h; exact own_b rfl h6.1 h6.2.1 h6.2.2
  | 6, h => injection h with h; subst h; exact own_b rfl h7.1 h7.2.1 h7.2.2
  | 7, h => injection h with h; subst h; exact own_b rfl h8.1 h8.2.1 h8.2.2
  | 8, h => injection h with h; subst h; exact own_b rfl h9.1 h9.2.1 h9.2.2
  | 9, h => injection h with h; subst h; exact own_b rfl h10.1 h10.2.1 h10.2.2
  | 10, h => injection h with h; subst h; exact own_b rfl h11.1 h11.2.1 h11.2.2
  | i + 11, h => cases h

set_option maxRecDepth 100000 in
set_option maxHeartbeats 20000000 in
theorem lists_walk (c : Nat) (A : Option Addr) (n0 cp : Nat) (l0 : List Nat) (f : Nat) (w : World) (hc : c < 65536) (h : (Ku.kSliceU Kk.kByte 1).ok w.heap.size w [.slice A n0 cp] l0) (hf : f < 256) :
    Calls Try.prog 11 #[.int .u16 (c : Int), .slice A n0 cp, .int .u8 (f : Int)] w fun e w' => e = .returned (.bool true) ∧ Below w.heap.size w w' := by
  obtain ⟨h, hu⟩ := h
  obtain ⟨hn, hn2, hncp, hr, h8, _⟩ := open_bytes h
  clear h
  have hn20 : n0 ≤ 1048576 := by rw [← hn]; exact hu
  obtain ⟨n, hnn⟩ : ∃ n, Hid (n0 / 2 * 2 = n) := ⟨_, Lib.hid rfl⟩
  obtain ⟨q, hqq⟩ : ∃ q, Hid (n / 2 = q) := ⟨_, Lib.hid rfl⟩
  have hn21 : n ≤ 1048576 := by rw [← hnn.out]; omega
  have HE : Hid (n % 2 = 0) := Lib.hid (by rw [← hnn.out]; omega)
  have H2Q : Hid (n = 2 * q) := Lib.hid (by have := HE.out; rw [← hqq.out]; omega)
  have hqb : q ≤ 524288 := by have := H2Q.out; omega
  obtain ⟨l, hl⟩ : ∃ l, l = l0.take n := ⟨_, rfl⟩
  have HL : Hid (l.length = n) := Lib.hid (by rw [hl, List.length_take, hn, ← hnn.out]; omega)
  have HR : Hid (Rd w A l) := Lib.hid (by
    have := hr.cut cp 0 n (by rw [hn]; exact hncp)
    rw [cutA_zero, List.drop_zero] at this
    rw [hl]; exact this)
  have H8 : Hid (B8 l) := Lib.hid (by rw [hl]; exact h8.take n)
  clear hl hn hr h8 hu
  have ML : Hid ((mg l l n).length = 2 * n) := Lib.hid (mg_length _ _ _)
  have LOL : Hid ((lo l).length = q) := Lib.hid (by rw [lo_length, HL.out, hqq.out])
  have HIL : Hid ((hi l).length = q) := Lib.hid (by rw [hi_length, HL.out, hqq.out])
  have WSL : Hid ((ws l).length = q) := Lib.hid (by rw [ws_length, HL.out, hqq.out])
  have BSL : Hid ((bs (ws l)).length = n) := Lib.hid (by rw [bs_length, WSL.out, ← H2Q.out])
  have W16 := Lib.hid (ws_w16 H8.out)
  have BWL : Hid (bs (ws l) = l) := Lib.hid (bs_ws (n := q) (by rw [HL.out, H2Q.out]) H8.out)
  have S0 := Lib.hid (St.start w)
  go_enter Try.func11, Try.ntmps11
  go_wp2_with fail
  refine (awake_st _).mono ?_
  rintro e w1 ⟨pk, rfl, hh⟩
  have h1 := S0.out.call hh; clear hh S0
  try simp only [List.nil_append, List.cons_append, List.append_eq, Int.toNat_natCast] at h1
  have S1 := Lib.hid h1; clear h1
  go_wp2_with ((with_reducible refine at_slot (N := 41) rfl ?_); refine ev rfl (bslice_run _ 5 0 _ (row .u8 []) rfl (fun _ => by kernel_rfl)) ?_; have h2 := S1.out.alloc 5 (row .u8 []); (try simp only [World.size_alloc, List.nil_append, List.cons_append, List.append_eq] at h2); have S2 := Lib.hid h2; clear h2 S1)
  refine (even_st A n0 cp _ hncp hn2).mono ?_
  rintro e _ ⟨rfl, rfl⟩
  rw [hnn.out]
  dsimp only
  go_wp2_with ((with_reducible refine at_slot (N := 44) rfl ?_); refine append_clone rfl _ _ rfl w1.heap.size rfl S2.out A n _ l rfl HL.out (S2.out.ext HR.out) H8.out (by omega) ?_; intro xb D w3 q1 q2 q3 q4 h3; obtain ⟨tl, htl⟩ : ∃ tl, D = l ++ tl := ⟨D.drop n, by rw [← q4, List.take_append_drop]⟩; obtain ⟨cg, hcg⟩ : ∃ cg, D.length = cg := ⟨_, rfl⟩; rw [hcg] at q1 q2 ⊢; rw [htl] at h3; have QM := Lib.hid q2; have QG : Hid (n + tl.length = cg) := Lib.hid (by rw [← hcg, htl, List.length_append, HL.out]); clear q2 q3 q4 htl hcg; (try simp only [World.size_alloc, List.nil_append, List.cons_append, List.append_eq] at h3); have S3 := Lib.hid h3; clear h3 S2)
  refine (Words_st HL.out HE.out (by omega) (rdHead8 S3.out HL.out mem0) H8.out).mono ?_
  rintro e w4 ⟨wb, rfl, hh⟩
  have h4 := S3.out.call hh; clear hh S3
  try simp only [List.nil_append, List.cons_append, List.append_eq, Int.toNat_natCast] at h4
  have S4 := Lib.hid h4; clear h4
  rw [hqq.out]
  go_wp2_with fail
  refine (Words_st HL.out HE.out (by omega) (rdHead8 S4.out HL.out mem1) H8.out).mono ?_
  rintro e w5 ⟨a1, rfl, hh⟩
  have h5 := S4.out.call hh; clear hh S4
  try simp only [List.nil_append, List.cons_append, List.append_eq, Int.toNat_natCast] at h5
  have S5 := Lib.hid h5; clear h5
  rw [hqq.out]
  go_wp2_with fail
  refine (Split_st HL.out HE.out (by omega) (rdHead8 S5.out HL.out mem2) H8.out).mono ?_
  rintro e w6 ⟨v1, v2, G1, G2, rfl, hg1, hg2, hh⟩
  have h6 := S5.out.call hh; clear hh S5
  try simp only [List.nil_append, List.cons_append, List.append_eq, Int.toNat_natCast] at h6
  obtain ⟨A1, c1, rfl⟩ := hg1.shape; obtain ⟨A2, c2, rfl⟩ := hg2.shape; rw [LOL.out] at hg1 ⊢; rw [HIL.out] at hg2 ⊢; have HG1 := Lib.hid hg1; have HG2 := Lib.hid hg2; clear hg1 hg2
  have S6 := Lib.hid h6; clear h6
  go_wp2_with fail
  refine (Split_st HL.out HE.out (by omega) (rdHead8 (tl := tl) S6.out HL.out (by simp)) H8.out).mono ?_
  rintro e w7 ⟨v3, v4, G3, G4, rfl, hg3, hg4, hh⟩
  have h7 := S6.out.call hh; clear hh S6
  try simp only [List.nil_append, List.cons_append, List.append_eq, Int.toNat_natCast] at h7
  obtain ⟨A3, c3, rfl⟩ := hg3.shape; obtain ⟨A4, c4, rfl⟩ := hg4.shape; rw [LOL.out] at hg3 ⊢; rw [HIL.out] at hg4 ⊢; have HG3 := Lib.hid hg3; have HG4 := Lib.hid hg4; clear hg3 hg4
  have S7 := Lib.hid h7; clear h7
  go_wp2_with fail
  refine (Merge_st HL.out HL.out (by omega) (rdHead8 (tl := tl) S7.out HL.out (by simp)) (rdHead8 (tl := tl) S7.out HL.out (by simp)) H8.out H8.out).mono ?_
  rintro e w8 ⟨v5, G5, rfl, hg5, hh⟩
  have h8 := S7.out.call hh; clear hh S7
  try simp only [List.nil_append, List.cons_append, List.append_eq, Int.toNat_natCast] at h8
  obtain ⟨A5, c5, rfl⟩ := hg5.shape; rw [ML.out] at hg5 ⊢; have HG5 := Lib.hid hg5; clear hg5
  have S8 := Lib.hid h8; clear h8
  go_wp2_with fail
  refine (Merge_st HL.out HL.out (by omega) (rdHead8 (tl := tl) S8.out HL.out (by simp)) (rdHead8 (tl := tl) S8.out HL.out (by simp)) H8.out H8.out).mono ?_
  rintro e w9 ⟨v6, G6, rfl, hg6, hh⟩
  have h9 := S8.out.call hh; clear hh S8
  try simp only [List.nil_append, List.cons_append, List.append_eq, Int.toNat_natCast] at h9
  obtain ⟨A6, c6, rfl⟩ := hg6.shape; rw [ML.out] at hg6 ⊢; have HG6 := Lib.hid hg6; clear hg6
  have S9 := Lib.hid h9; clear h9
  go_wp2_with fail
  refine (Bytes_st WSL.out (by omega) (S9.out.rdV (b := wb) (t := 23) (l := ws l) (by simp [row, cellsV, e16])) W16.out).mono ?_
  rintro e w10 ⟨v7, G7, rfl, hg7, hh⟩
  have h10 := S9.out.call hh; clear hh S9
  try simp only [List.nil_append, List.cons_append, List.append_eq, Int.toNat_natCast] at h10
  obtain ⟨A7, c7, rfl⟩ := hg7.shape; rw [BSL.out] at hg7 ⊢; have HG7 := Lib.hid hg7; clear hg7
  have S10 := Lib.hid h10; clear h10
  go_wp2_with fail
  refine (Bytes_st WSL.out (by omega) (S10.out.rdV (b := wb) (t := 23) (l := ws l) (by simp [row, cellsV, e16])) W16.out).mono ?_
  rintro e w11 ⟨v8, G8, rfl, hg8, hh⟩
  have h11 := S10.out.call hh; clear hh S10
  try simp only [List.nil_append, List.cons_append, List.append_eq, Int.toNat_natCast] at h11
  obtain ⟨A8, c8, rfl⟩ := hg8.shape; rw [BSL.out] at hg8 ⊢; have HG8 := Lib.hid hg8; clear hg8
  have S11 := Lib.hid h11; clear h11
  have SA := S11; clear S11
  go_wp2_with (first
    | ((with_reducible refine at_slot (N := 83) rfl ?_); refine ev rfl (bslice_run _ 5 0 _ (row .u8 []) rfl (fun _ => by kernel_rfl)) ?_; have h12 := SA.out.alloc 5 (row .u8 []); (try simp only [World.size_alloc, List.nil_append, List.cons_append, List.append_eq] at h12); have S12 := Lib.hid h12; clear h12 SA)
    | ((with_reducible refine at_slot (N := 85) rfl ?_); refine append_clone rfl _ _ rfl _ rfl S12.out (some ⟨xb, 0, none⟩) n _ l rfl HL.out (rdHead8 (tl := tl) S12.out HL.out (by simp)) H8.out (by omega) ?_; intro ob Dx w13 q2 q3 q4 q5 h13; obtain ⟨tx, htx⟩ : ∃ tx, Dx = l ++ tx := ⟨Dx.drop n, by rw [← q5, List.take_append_drop]⟩; obtain ⟨co, hco⟩ : ∃ co, Dx.length = co := ⟨_, rfl⟩; rw [hco] at q2 ⊢; rw [htx] at h13; clear q3 q4 q5 htx hco; (try simp only [World.size_alloc, List.nil_append, List.cons_append, List.append_eq] at h13); have S13 := Lib.hid h13; clear h13 S12))
  have SB := S13; clear S13
  obtain ⟨NN, hNN⟩ : ∃ NN : List Ent, Hid (NN = [bt ob (l ++ tx)] ++ (G8 ++ (G7 ++ (G6 ++ (G5 ++ (G4 ++ (G3 ++ (G2 ++ (G1 ++ ([⟨a1, 23, row .u16 (ws l)⟩] ++ [⟨wb, 23, row .u16 (ws l)⟩])))))))))) := ⟨_, Lib.hid rfl⟩
  have SC : Hid (St w _ [] (bt xb (flk f l 0 ++ tl) :: NN)) := Lib.hid (by rw [hNN.out, flk_zero]; exact SB.out.perm (perm_of fun a => by simp only [List.nil_append, List.cons_append, List.append_nil, cnt_append, cnt_cons, cnt_nil, Nat.add_assoc, Nat.add_zero, Nat.zero_add]; try ac_rfl))
  clear SB
  go_loopw [24] (fun vj wq => ∃ j : Nat, j ≤ n ∧ vj = .int .i64 j ∧ St w wq [] (bt xb (flk f l j ++ tl) :: NN)) (fun vj _ => n - (intOf vj).toNat)
  case atStart => exact ⟨0, by omega, rfl, SC.out⟩
  case round =>
    clear SC
    obtain ⟨j, hj, rfl, hs⟩ := hrel
    have S20 := Lib.hid hs; clear hs
    by_cases hjt : j < n
    · have m1 := (S20.out.blk mem0).cellRow (i := j) (by rw [List.length_append, flk_length, HL.out]; omega)
      have f1 := (S20.out.blk mem0).free (i := j)
      rw [head_get8 (by rw [flk_length, HL.out]; exact hjt), flk_get (by rw [HL.out]; exact hjt)] at m1
      have hx := H8.out.get (i := j) (by rw [HL.out]; exact hjt)
      have HST := Lib.hid (flk_step (f := f) (l := l) (j := j) (by rw [HL.out]; exact hjt))
      have HHS := Lib.hid (head_set8 (s := flk f l j) (tl := tl) (j := j) (v := l.getD j 0 ^^^ f) (by rw [flk_length, HL.out]; exact hjt))
      generalize l.getD j 0 = x at *
      have x1 : Go.bits .xor .u8 (x : Int) (f : Int) = ((x ^^^ f : Nat) : Int) := Bt.xor8 hx hf
      have j1 : (j : Int) < (n : Int) := by omega
      have j0 : (0 : Int) ≤ (j : Int) := by omega
      go_wp2_with fail
      clear m1 f1 x1
      refine ⟨⟨j + 1, by omega, by simp, ?_⟩, ?_⟩
      · rw [← HST.out, ← HHS.out]
        exact S20.out.setRow (N1 := []) j (x ^^^ f)
      · simp [intOf]; omega
    · obtain rfl : j = n := by omega
      obtain ⟨n, rfl⟩ : ∃ n, n = j := ⟨_, rfl⟩
      rw [flk_done HL.out] at S20
      obtain ⟨l3, hl3⟩ : ∃ l3, Hid (fl f l = l3) := ⟨_, Lib.hid rfl⟩
      have HL3 : Hid (l3.length = n) := Lib.hid (by rw [← hl3.out, fl_length, HL.out])
      have H83 : Hid (B8 l3) := Lib.hid (by rw [← hl3.out]; exact fl_b8 hf H8.out)
      rw [hl3.out] at S20
      have ML3 : Hid ((mg l3 l3 n).length = 2 * n) := Lib.hid (mg_length _ _ _)
      have LOL3 : Hid ((lo l3).length = q) := Lib.hid (by rw [lo_length, HL3.out, hqq.out])
      have HIL3 : Hid ((hi l3).length = q) := Lib.hid (by rw [hi_length, HL3.out, hqq.out])
      clear hjt hj
      go_wp2_with fail
      refine (Words_st HL3.out HE.out (by omega) (rdHead8 (tl := tl) S20.out HL3.out (by simp)) H83.out).mono ?_
      rintro e w21 ⟨a2, rfl, hh⟩
      have h21 := S20.out.call hh; clear hh S20
      try simp only [List.nil_append, List.cons_append, List.append_eq, Int.toNat_natCast] at h21
      have S21 := Lib.hid h21; clear h21
      rw [hqq.out]
      go_wp2_with fail
      refine (Split_st HL3.out HE.out (by omega) (rdHead8 (tl := tl) S21.out HL3.out (by simp)) H83.out).mono ?_
      rintro e w22 ⟨v1, v2, K1, K2, rfl, hg1, hg2, hh⟩
      have h22 := S21.out.call hh; clear hh S21
      try simp only [List.nil_append, List.cons_append, List.append_eq, Int.toNat_natCast] at h22
      obtain ⟨B1, e1, rfl⟩ := hg1.shape; obtain ⟨B2, e2, rfl⟩ := hg2.shape; rw [LOL3.out] at hg1 ⊢; rw [HIL3.out] at hg2 ⊢; have HK1 := Lib.hid hg1; have HK2 := Lib.hid hg2; clear hg1 hg2
      have S22 := Lib.hid h22; clear h22
      go_wp2_with fail
      refine (Merge_st HL3.out HL3.out (by omega) (rdHead8 (tl := tl) S22.out HL3.out (by simp)) (rdHead8 (tl := tl) S22.out HL3.out (by simp)) H83.out H83.out).mono ?_
      rintro e w23 ⟨v5, K3, rfl, hg5, hh⟩
      have h23 := S22.out.call hh; clear hh S22
      try simp only [List.nil_append, List.cons_append, List.append_eq, Int.toNat_natCast] at h23
      obtain ⟨B3, e3, rfl⟩ := hg5.shape; rw [ML3.out] at hg5 ⊢; have HK3 := Lib.hid hg5; clear hg5
      have S23 := Lib.hid h23; clear h23
      have SD := S23; clear S23
      have d1 : (n : Int).tdiv 2 = (q : Int) := by rw [Int.tdiv_eq_ediv_of_nonneg (by omega)]; have := H2Q.out; omega
      have d2 : (n : Int) / 2 = (q : Int) := by have := H2Q.out; omega
      go_wp2_with fail
      clear d1 d2
      obtain ⟨N2, hN2⟩ : ∃ N2 : List Ent, Hid (N2 = K3 ++ (K2 ++ (K1 ++ ([⟨a2, 23, row .u16 (ws l3)⟩] ++ ([bt xb (l3 ++ tl)] ++ NN))))) := ⟨_, Lib.hid rfl⟩
      have SE : Hid (St w _ [] N2) := Lib.hid (by rw [hN2.out]; exact SD.out.perm (perm_of fun a => by simp only [List.nil_append, List.cons_append, List.append_nil, cnt_append, cnt_cons, cnt_nil, Nat.add_assoc, Nat.add_zero, Nat.zero_add]; try ac_rfl))
      clear SD
      have MEM : Hid (∀ e : Ent, (e ∈ K3 ∨ e ∈ K2 ∨ e ∈ K1 ∨ e = ⟨a2, 23, row .u16 (ws l3)⟩ ∨ e = bt xb (l3 ++ tl) ∨ e ∈ NN) → e ∈ N2) := Lib.hid (fun e he => by rw [hN2.out]; simpa using he)
      have MEN : Hid (∀ e : Ent, (e = bt ob (l ++ tx) ∨ e ∈ G8 ∨ e ∈ G7 ∨ e ∈ G6 ∨ e ∈ G5 ∨ e ∈ G4 ∨ e ∈ G3 ∨ e ∈ G2 ∨ e ∈ G1 ∨ e = ⟨a1, 23, row .u16 (ws l)⟩ ∨ e = ⟨wb, 23, row .u16 (ws l)⟩) → e ∈ N2) := Lib.hid (fun e he => MEM.out e (.inr (.inr (.inr (.inr (.inr (by rw [hNN.out]; simpa using he)))))))
      have RX : Hid (∀ wq : World, St w wq [] N2 → Rd wq (some ⟨xb, 0, none⟩) l3) := Lib.hid (fun wq hs => rdHead8 (tl := tl) hs HL3.out (MEM.out _ (by simp)))
      have RO : Hid (∀ wq : World, St w wq [] N2 → Rd wq (some ⟨ob, 0, none⟩) l) := Lib.hid (fun wq hs => rdHead8 (tl := tx) hs HL.out (MEN.out _ (.inl rfl)))
      have R1 : Hid (∀ wq : World, St w wq [] N2 → Rd wq A1 (lo l)) := Lib.hid (fun wq hs => HG1.out.read hs fun e he => MEN.out e (by simp [he]))
      have R2 : Hid (∀ wq : World, St w wq [] N2 → Rd wq A2 (hi l)) := Lib.hid (fun wq hs => HG2.out.read hs fun e he => MEN.out e (by simp [he]))
      have R3 : Hid (∀ wq : World, St w wq [] N2 → Rd wq A3 (lo l)) := Lib.hid (fun wq hs => HG3.out.read hs fun e he => MEN.out e (by simp [he]))
      have R4 : Hid (∀ wq : World, St w wq [] N2 → Rd wq A4 (hi l)) := Lib.hid (fun wq hs => HG4.out.read hs fun e he => MEN.out e (by simp [he]))
      have R5 : Hid (∀ wq : World, St w wq [] N2 → Rd wq A5 (mg l l n)) := Lib.hid (fun wq hs => HG5.out.read hs fun e he => MEN.out e (by simp [he]))
      have R6 : Hid (∀ wq : World, St w wq [] N2 → Rd wq A6 (mg l l n)) := Lib.hid (fun wq hs => HG6.out.read hs fun e he => MEN.out e (by simp [he]))
      have R7 : Hid (∀ wq : World, St w wq [] N2 → Rd wq A7 (bs (ws l))) := Lib.hid (fun wq hs => HG7.out.read hs fun e he => MEN.out e (by simp [he]))
      have R8 : Hid (∀ wq : World, St w wq [] N2 → Rd wq A8 (bs (ws l))) := Lib.hid (fun wq hs => HG8.out.read hs fun e he => MEN.out e (by simp [he]))
      have Q1 : Hid (∀ wq : World, St w wq [] N2 → Rd wq B1 (lo l3)) := Lib.hid (fun wq hs => HK1.out.read hs fun e he => MEM.out e (by simp [he]))
      have Q2 : Hid (∀ wq : World, St w wq [] N2 → Rd wq B2 (hi l3)) := Lib.hid (fun wq hs => HK2.out.read hs fun e he => MEM.out e (by simp [he]))
      have Q3 : Hid (∀ wq : World, St w wq [] N2 → Rd wq B3 (mg l3 l3 n)) := Lib.hid (fun wq hs => HK3.out.read hs fun e he => MEM.out e (by simp [he]))
      have RW : Hid (∀ wq : World, St w wq [] N2 → ∀ t, t < q → wq.cell? ⟨wb, t, none⟩ = some (.int .u16 ((wd l t : Nat) : Int)) ∧ wq.cell? ⟨a2, t, none⟩ = some (.int .u16 ((wd l3 t : Nat) : Int))) := Lib.hid (fun wq hs t ht => by
        have h1 := (hs.blk (b := wb) (t := 23) (c := row .u16 (ws l)) (MEN.out _ (by simp))).cellRow (i := t) (by rw [WSL.out]; exact ht)
        have h2 := (hs.blk (b := a2) (t := 23) (c := row .u16 (ws l3)) (MEM.out _ (by simp))).cellRow (i := t) (by rw [ws_length, HL3.out, hqq.out]; exact ht)
        rw [ws_getD (by rw [HL.out, hqq.out]; exact ht)] at h1
        rw [ws_getD (by rw [HL3.out, hqq.out]; exact ht)] at h2
        exact ⟨h1, h2⟩)
      go_loopw [32] (fun vj wq => ∃ j : Nat, j ≤ q ∧ vj = .int .i64 j ∧ St w wq [] N2) (fun vj _ => q - (intOf vj).toNat)
      case atStart => exact ⟨0, by omega, rfl, SE.out⟩
      case round =>
        clear SE
        obtain ⟨t, ht, rfl, hs⟩ := hrel
        have S30 := Lib.hid hs; clear hs
        by_cases htq : t < q
        · have h2t : 2 * t + 1 < n := by have := H2Q.out; omega
          obtain ⟨mw, ma⟩ := RW.out _ S30.out t htq
          have mx1 := (RX.out _ S30.out).at (i := 2 * t) (by rw [HL3.out]; omega)
          have mx2 := (RX.out _ S30.out).at (i := 2 * t + 1) (by rw [HL3.out]; omega)
          have mo1 := (RO.out _ S30.out).at (i := 2 * t) (by rw [HL.out]; omega)
          have mo2 := (RO.out _ S30.out).at (i := 2 * t + 1) (by rw [HL.out]; omega)
          obtain ⟨b1, o1, eA1, k1⟩ := (R1.out _ S30.out) (by rw [LOL.out]; omega)
          obtain ⟨b2, o2, eA2, k2⟩ := (R2.out _ S30.out) (by rw [HIL.out]; omega)
          obtain ⟨b3, o3, eA3, k3⟩ := (Q1.out _ S30.out) (by rw [LOL3.out]; omega)
          obtain ⟨b4, o4, eA4, k4⟩ := (Q2.out _ S30.out) (by rw [HIL3.out]; omega)
          have ml1 := k1 t (by rw [LOL.out]; exact htq)
          have ml2 := k2 t (by rw [HIL.out]; exact htq)
          have ml3 := k3 t (by rw [LOL3.out]; exact htq)
          have ml4 := k4 t (by rw [HIL3.out]; exact htq)
          rw [lo_get (by rw [HL.out, hqq.out]; exact htq)] at ml1
          rw [hi_get (by rw [HL.out, hqq.out]; exact htq)] at ml2
          rw [lo_get (by rw [HL3.out, hqq.out]; exact htq)] at ml3
          rw [hi_get (by rw [HL3.out, hqq.out]; exact htq)] at ml4
          have hW3 : wd l3 t = wd l t ^^^ (f * 257) := by rw [← hl3.out]; exact wd_fl hf H8.out (by rw [HL.out]; exact h2t)
          have hWl : wd l t < 65536 := wd_lt H8.out t
          have hWe : (((l.getD (2 * t) 0 : Nat) : Int) + 256 * ((l.getD (2 * t + 1) 0 : Nat) : Int)) = ((wd l t : Nat) : Int) := by unfold wd; omega
          have hA8 := H8.out.get (i := 2 * t) (by rw [HL.out]; omega)
          have hB8 := H8.out.get (i := 2 * t + 1) (by rw [HL.out]; omega)
          subst eA1 eA2 eA3 eA4
          clear k1 k2 k3 k4
          generalize wd l3 t = W3 at *
          generalize wd l t = W at *
          generalize l.getD (2 * t) 0 = a at *
          generalize l.getD (2 * t + 1) 0 = b at *
          generalize l3.getD (2 * t) 0 = a' at *
          generalize l3.getD (2 * t + 1) 0 = b' at *
          obtain ⟨F, hF⟩ : ∃ F, Hid (f * 257 = F) := ⟨_, Lib.hid rfl⟩
          have hF1 : F < 65536 := by rw [← hF.out]; omega
          have e2 : ((f : Int) * 257) % 65536 = (F : Int) := by rw [← hF.out]; omega
          have e3 : IntKind.u16.wrap ((f : Int) * 257) = (F : Int) := e2
          have e4 : Go.bits .xor .u16 (W : Int) (F : Int) = ((W ^^^ F : Nat) : Int) := Bt.xor16 hWl hF1
          rw [hF.out] at hW3
          rw [← hW3] at e4
          have t0 : (0 : Int) ≤ (t : Int) := by omega
          have t1 : (t : Int) < (q : Int) := by omega
          have t2 : 2 * (t : Int) < (n : Int) := by omega
          have t3 : 2 * (t : Int) + 1 < (n : Int) := by omega
          have t4 : (2 * (t : Int)).toNat = 2 * t := by omega
          have t5 : (2 * (t : Int) + 1).toNat = 2 * t + 1 := by omega
          have t6 : (0 : Int) ≤ 2 * (t : Int) := by omega
          have t7 : (0 : Int) ≤ 2 * (t : Int) + 1 := by omega
          have t8 : IntKind.i64.wrap (2 * (t : Int)) = 2 * (t : Int) := Bt.wrap_i64 _ (by omega) (by omega)
          have t9 : IntKind.i64.wrap (2 * (t : Int) + 1) = 2 * (t : Int) + 1 := Bt.wrap_i64 _ (by omega) (by omega)
          clear hW3
          go_wp2_with fail
          dsimp only [List.cons_append, List.nil_append, List.append_eq]
          refine wp_region_quiet_lit (by kernel_rfl) (lexB_of (by kernel_rfl) (by kernel_rfl) (by kernel_rfl)) ?_
          repeat (any_goals (first | go_big_quiet_step (fail) | quiet_step (fail)))
          refine wpQuiet_nil ?_
          intro _ hw'
          obtain ⟨nq, hw''⟩ := hw'
          subst hw''
          go_wp2_with fail
          clear mw ma mx1 mx2 mo1 mo2 ml1 ml2 ml3 ml4 hWe e2 e3 e4
          refine ⟨⟨t + 1, by omega, by simp, by first | exact S30.out.drewN | exact S30.out.drew⟩, ?_⟩
          simp [intOf]; omega
        · obtain rfl : t = q := by omega
          obtain ⟨q, rfl⟩ : ∃ q, q = t := ⟨_, rfl⟩
          clear htq ht
          go_wp2_with fail
          go_loopw [33] (fun vj wq => ∃ j : Nat, j ≤ n ∧ vj = .int .i64 j ∧ St w wq [] N2) (fun vj _ => n - (intOf vj).toNat)
          case atStart => exact ⟨0, by omega, rfl, S30.out⟩
          case round =>
            clear S30
            obtain ⟨t, ht, rfl, hs⟩ := hrel
            have S31 := Lib.hid hs; clear hs
            by_cases htn : t < n
            · obtain ⟨b5, o5, eA5, k5⟩ := (R5.out _ S31.out) (by rw [ML.out]; omega)
              obtain ⟨b6, o6, eA6, k6⟩ := (Q3.out _ S31.out) (by rw [ML3.out]; omega)
              have mm1 := k5 (2 * t) (by rw [ML.out]; omega)
              have mm2 := k5 (2 * t + 1) (by rw [ML.out]; omega)
              have mn1 := k6 (2 * t) (by rw [ML3.out]; omega)
              have mn2 := k6 (2 * t + 1) (by rw [ML3.out]; omega)
              rw [(mg_get htn).1] at mm1 mn1
              rw [(mg_get htn).2] at mm2 mn2
              have mo := (RO.out _ S31.out).at (i := t) (by rw [HL.out]; omega)
              have mx := (RX.out _ S31.out).at (i := t) (by rw [HL3.out]; omega)
              subst eA5 eA6
              clear k5 k6
              generalize l.getD t 0 = a at *
              generalize l3.getD t 0 = b at *
              have t0 : (0 : Int) ≤ (t : Int) := by omega
              have t1 : (t : Int) < (n : Int) := by omega
              have t2 : 2 * (t : Int) < 2 * (n : Int) := by omega
              have t3 : 2 * (t : Int) + 1 < 2 * (n : Int) := by omega
              have t4 : (2 * (t : Int)).toNat = 2 * t := by omega
              have t5 : (2 * (t : Int) + 1).toNat = 2 * t + 1 := by omega
              have t6 : (0 : Int) ≤ 2 * (t : Int) := by omega
              have t7 : (0 : Int) ≤ 2 * (t : Int) + 1 := by omega
              go_wp2_with fail
              go_quiet (fail)
              go_wp2_with fail
              clear mm1 mm2 mn1 mn2 mo mx
              refine ⟨⟨t + 1, by omega, by simp, S31.out.drewN⟩, ?_⟩
              simp [intOf]; omega
            · obtain rfl : t = n := by omega
              obtain ⟨n, rfl⟩ : ∃ n, n = t := ⟨_, rfl⟩
              clear htn ht
              go_wp2_with fail
              refine (alike_st WSL.out (by omega) (S31.out.rdV (b := a1) (t := 23) (l := ws l) (MEN.out _ (by simp [row, cellsV, e16]))) (S31.out.rdV (b := wb) (t := 23) (l := ws l) (MEN.out _ (by simp [row, cellsV, e16])))).mono ?_
              rintro e w32 ⟨rfl, hh⟩
              have h32 := S31.out.call hh; clear hh S31
              try simp only [List.nil_append, List.cons_append, List.append_eq, Int.toNat_natCast] at h32
              have S32 := Lib.hid h32; clear h32
              go_wp2_with fail
              refine (equal_st LOL.out (by omega) (R3.out _ S32.out) (R1.out _ S32.out)).mono ?_
              rintro e w33 ⟨rfl, hh⟩
              have h33 := S32.out.call hh; clear hh S32
              try simp only [List.nil_append, List.cons_append, List.append_eq, Int.toNat_natCast] at h33
              have S33 := Lib.hid h33; clear h33
              go_wp2_with fail
              refine (equal_st HIL.out (by omega) (R4.out _ S33.out) (R2.out _ S33.out)).mono ?_
              rintro e w34 ⟨rfl, hh⟩
              have h34 := S33.out.call hh; clear hh S33
              try simp only [List.nil_append, List.cons_append, List.append_eq, Int.toNat_natCast] at h34
              have S34 := Lib.hid h34; clear h34
              go_wp2_with fail
              refine (equal_st ML.out (by omega) (R6.out _ S34.out) (R5.out _ S34.out)).mono ?_
              rintro e w35 ⟨rfl, hh⟩
              have h35 := S34.out.call hh; clear hh S34
              try simp only [List.nil_append, List.cons_append, List.append_eq, Int.toNat_natCast] at h35
              have S35 := Lib.hid h35; clear h35
              go_wp2_with fail
              refine (equal_st HL.out (by omega) (by have := R7.out _ S35.out; rw [BWL.out] at this; exact this) (RO.out _ S35.out)).mono ?_
              rintro e w36 ⟨rfl, hh⟩
              have h36 := S35.out.call hh; clear hh S35
              try simp only [List.nil_append, List.cons_append, List.append_eq, Int.toNat_natCast] at h36
              have S36 := Lib.hid h36; clear h36
              go_wp2_with fail
              refine (equal_st HL.out (by omega) (by have := R8.out _ S36.out; rw [BWL.out] at this; exact this) (RO.out _ S36.out)).mono ?_
              rintro e w37 ⟨rfl, hh⟩
              have h37 := S36.out.call hh; clear hh S36
              try simp only [List.nil_append, List.cons_append, List.append_eq, Int.toNat_natCast] at h37
              have S37 := Lib.hid h37; clear h37
              have SF := S37; clear S37
              go_wp2_with (first
                | ((with_reducible refine at_slot (N := 355) rfl ?_); refine ev rfl (bslice_run _ 5 0 _ (row .u8 []) rfl (fun _ => by kernel_rfl)) ?_; have h38 := SF.out.alloc 5 (row .u8 []); (try simp only [World.size_alloc, List.nil_append, List.cons_append, List.append_eq] at h38); have S38 := Lib.hid h38; clear h38 SF)
                | ((with_reducible refine at_slot (N := 357) rfl ?_); refine append_clone rfl _ _ rfl _ rfl S38.out (some ⟨xb, 0, none⟩) n _ l3 rfl HL3.out (rdHead8 (tl := tl) S38.out HL3.out (by simp [MEM.out (bt xb (l3 ++ tl)) (by simp)])) H83.out (by omega) ?_; intro nb Dy w39 q3 q4 q5 q6 h39; have Q9 := Lib.hid q6; clear q3 q4 q5 q6; (try simp only [World.size_alloc, List.nil_append, List.cons_append, List.append_eq] at h39); have S39 := Lib.hid h39; clear h39 S38))
              refine ((quarters_own c _ hc)).mono ?_
              rintro e w40 ⟨qb, dq, Gq, rfl, hdq, hfq, hh⟩
              have h40 := S39.out.call hh; clear hh S39
              try simp only [List.nil_append, List.cons_append, List.append_eq, Int.toNat_natCast] at h40
              have HDQ := Lib.hid hdq; have HFQ := Lib.hid hfq; clear hdq hfq
              have S40 := Lib.hid h40; clear h40
              go_wp2_with fail
              refine ((quarters_own c _ hc)).mono ?_
              rintro e w41 ⟨rb, dr, Gr, rfl, hdr, hfr, hh⟩
              have h41 := S40.out.call hh; clear hh S40
              try simp only [List.nil_append, List.cons_append, List.append_eq, Int.toNat_natCast] at h41
              have HDR := Lib.hid hdr; have HFR := Lib.hid hfr; clear hdr hfr
              have S41 := Lib.hid h41; clear h41
              go_wp2_with fail
              refine (rows_st (qs_length c 4) (by decide) (qs_len8 c) (rdq_own HDQ.out HFQ.out S41.out (by simp) (fun e he => by simp [he])) (rdq_own HDR.out HFR.out S41.out (by simp) (fun e he => by simp [he]))).mono ?_
              rintro e w42 ⟨rfl, hh⟩
              have h42 := S41.out.call hh; clear hh S41
              try simp only [List.nil_append, List.cons_append, List.append_eq, Int.toNat_natCast] at h42
              have S42 := Lib.hid h42; clear h42
              go_wp2_with (first
                | ((with_reducible refine at_slot (N := 374) rfl ?_); refine bslice_law8 rfl _ 36 3 _ (cellsV es [⟨some ⟨wb, 0, none⟩, q, q⟩, ⟨some ⟨a1, 0, none⟩, q, q⟩, ⟨some ⟨a2, 0, none⟩, q, q⟩]) rfl (fun _ => by kernel_rfl) S42.out ?_; intro yb w43 h43; have HY := Lib.hid h43; (try simp only [World.size_alloc, List.nil_append, List.cons_append, List.append_eq] at h43); have S43 := Lib.hid h43; clear h43 S42)
                | ((with_reducible refine at_slot (N := 377) rfl ?_); refine append_v (enc := es) (G := [⟨yb, 36, cellsV es [⟨some ⟨wb, 0, none⟩, q, q⟩, ⟨some ⟨a1, 0, none⟩, q, q⟩, ⟨some ⟨a2, 0, none⟩, q, q⟩]⟩]) rfl _ _ _ rfl ⟨none, 0, 0⟩ 24 Try.underlying34 info_w16 rfl (fun _ => rfl) _ [⟨some ⟨wb, 0, none⟩, q, q⟩, ⟨some ⟨a1, 0, none⟩, q, q⟩, ⟨some ⟨a2, 0, none⟩, q, q⟩] rfl S43.out (GrowV.of_blk (n := 3) (cap := 3) (Nat.le_refl _) rfl (by decide) rfl rfl) (some ⟨qb, 0, none⟩) 4 4 dq rfl HDQ.out (S43.out.rdV (t := 36) (l := dq) (by simp)) (by show (3 + dq.length) * 24 ≤ _; rw [HDQ.out]; decide) (by show 3 + dq.length ≤ maxLen; rw [HDQ.out]; decide) ?_; intro v9 w44 Gy h44 hg' hz; have HGY := Lib.hid hg'; clear hg' hz HY; (try simp only [World.size_alloc, List.nil_append, List.cons_append, List.append_eq] at h44); have S44 := Lib.hid h44; clear h44 S43)
                | ((with_reducible refine at_slot (N := 380) rfl ?_); refine append_v (enc := es) (G := Gy) rfl _ _ _ rfl ⟨none, 0, 0⟩ 24 Try.underlying34 info_w16 rfl (fun _ => rfl) _ _ rfl S44.out HGY.out (some ⟨rb, 0, none⟩) 4 4 dr rfl HDR.out (S44.out.rdV (t := 36) (l := dr) (by simp)) (by rw [List.length_append, HDQ.out, HDR.out]; show (3 + 4 + 4) * 24 ≤ _; decide) (by rw [List.length_append, HDQ.out, HDR.out]; show 3 + 4 + 4 ≤ maxLen; decide) ?_; intro v10 w45 Gw h45 hg' hz; obtain ⟨Aw, cw, rfl⟩ := hg'.shape; have e11 : (([⟨some ⟨wb, 0, none⟩, q, q⟩, ⟨some ⟨a1, 0, none⟩, q, q⟩, ⟨some ⟨a2, 0, none⟩, q, q⟩] : List Sd) ++ dq ++ dr).length = 11 := (by rw [List.length_append, List.length_append, HDQ.out, HDR.out]; rfl); rw [e11] at hg' ⊢; have HGW := Lib.hid hg'; have E11 := Lib.hid e11; clear hg' hz HGY e11; (try simp only [World.size_alloc, List.nil_append, List.cons_append, List.append_eq] at h45); have S45 := Lib.hid h45; clear h45 S44)
                | ((with_reducible refine at_slot (N := 392) rfl ?_); refine bslice_law8 rfl _ 24 11 _ (cellsV es [⟨A1, q, c1⟩, ⟨A2, q, c2⟩, ⟨A3, q, c3⟩, ⟨A4, q, c4⟩, ⟨B1, q, e1⟩, ⟨B2, q, e2⟩, ⟨A5, 2 * n, c5⟩, ⟨A6, 2 * n, c6⟩, ⟨B3, 2 * n, e3⟩, ⟨A7, n, c7⟩, ⟨A8, n, c8⟩]) rfl (fun _ => by kernel_rfl) S45.out ?_; intro zb w46 h46; (try simp only [World.size_alloc, List.nil_append, List.cons_append, List.append_eq] at h46); have S46 := Lib.hid h46; clear h46 S45))
              have SG := S46; clear S46
              have hq41 : q ≤ 4194304 := by omega
              have hn41 : n ≤ 4194304 := by omega
              have h2n41 : 2 * n ≤ 4194304 := by omega
              have HF8 := Lib.hid (fam11 ⟨HG1.out, LOL.out, hq41⟩ ⟨HG2.out, HIL.out, hq41⟩ ⟨HG3.out, LOL.out, hq41⟩ ⟨HG4.out, HIL.out, hq41⟩ ⟨HK1.out, LOL3.out, hq41⟩ ⟨HK2.out, HIL3.out, hq41⟩ ⟨HG5.out, ML.out, h2n41⟩ ⟨HG6.out, ML.out, h2n41⟩ ⟨HK3.out, ML3.out, h2n41⟩ ⟨HG7.out, BSL.out, hn41⟩ ⟨HG8.out, BSL.out, hn41⟩)
              have SH : Hid (St w w46 [] (([bt ob (l ++ tx)] : List Ent) ++ (([G1, G2, G3, G4, K1, K2, G5, G6, K3, G7, G8] : List (List Ent)).flatten ++ ([⟨zb, 24, cellsV es [⟨A1, q, c1⟩, ⟨A2, q, c2⟩, ⟨A3, q, c3⟩, ⟨A4, q, c4⟩, ⟨B1, q, e1⟩, ⟨B2, q, e2⟩, ⟨A5, 2 * n, c5⟩, ⟨A6, 2 * n, c6⟩, ⟨B3, 2 * n, e3⟩, ⟨A7, n, c7⟩, ⟨A8, n, c8⟩]⟩] ++ (Gw ++ ([⟨qb, 36, cellsV es dq⟩] ++ ([⟨rb, 36, cellsV es dr⟩] ++ ([bt xb (l3 ++ tl)] ++ ([bt nb Dy] ++ ([[⟨wb, 23, row .u16 (ws l)⟩], [⟨a1, 23, row .u16 (ws l)⟩], [⟨a2, 23, row .u16 (ws l3)⟩]] ++ (Gq ++ Gr) : List (List Ent)).flatten))))))))) := Lib.hid (by
                have h1 := SG.out
                rw [hN2.out, hNN.out] at h1
                exact h1.perm (perm_of fun a => by simp only [List.flatten_append, List.flatten_cons, List.flatten_nil, List.nil_append, List.cons_append, List.append_nil, cnt_append, cnt_cons, cnt_nil, Nat.add_assoc, Nat.add_zero, Nat.zero_add]; try ac_rfl))
              have SI := Lib.hid (SH.out.drop (List.sublist_append_right _ _))
              clear SH SG
              refine (ap8_st (kk := 11) (ds := [⟨A1, q, c1⟩, ⟨A2, q, c2⟩, ⟨A3, q, c3⟩, ⟨A4, q, c4⟩, ⟨B1, q, e1⟩, ⟨B2, q, e2⟩, ⟨A5, 2 * n, c5⟩, ⟨A6, 2 * n, c6⟩, ⟨B3, 2 * n, e3⟩, ⟨A7, n, c7⟩, ⟨A8, n, c8⟩]) (Gs := [G1, G2, G3, G4, K1, K2, G5, G6, K3, G7, G8]) rfl (by decide) SI.out HF8.out (fun w' N' hs hm => hs.rdV (hm _ (List.mem_append_left _ (List.mem_singleton.2 rfl))))).mono ?_
              rintro e wE ⟨rfl, hE⟩
              have SJ : Hid (St w wE [] (([[⟨wb, 23, row .u16 (ws l)⟩], [⟨a1, 23, row .u16 (ws l)⟩], [⟨a2, 23, row .u16 (ws l3)⟩]] ++ (Gq ++ Gr) : List (List Ent)).flatten ++ ([⟨zb, 24, cellsV es [⟨A1, q, c1⟩, ⟨A2, q, c2⟩, ⟨A3, q, c3⟩, ⟨A4, q, c4⟩, ⟨B1, q, e1⟩, ⟨B2, q, e2⟩, ⟨A5, 2 * n, c5⟩, ⟨A6, 2 * n, c6⟩, ⟨B3, 2 * n, e3⟩, ⟨A7, n, c7⟩, ⟨A8, n, c8⟩]⟩] ++ (Gw ++ ([⟨qb, 36, cellsV es dq⟩] ++ ([⟨rb, 36, cellsV es dr⟩] ++ ([bt xb (l3 ++ tl)] ++ [bt nb Dy]))))))) := Lib.hid (hE.perm (perm_of fun a => by simp only [List.flatten_append, List.flatten_cons, List.flatten_nil, List.nil_append, List.cons_append, List.append_nil, cnt_append, cnt_cons, cnt_nil, Nat.add_assoc, Nat.add_zero, Nat.zero_add]; try ac_rfl))
              clear hE SI HF8
              have HF16 : Hid (Fam 11 (Own e16 23 ([⟨some ⟨wb, 0, none⟩, q, q⟩, ⟨some ⟨a1, 0, none⟩, q, q⟩, ⟨some ⟨a2, 0, none⟩, q, q⟩] ++ dq ++ dr) (fun _ l => l.length ≤ 4194304)) ([[⟨wb, 23, row .u16 (ws l)⟩], [⟨a1, 23, row .u16 (ws l)⟩], [⟨a2, 23, row .u16 (ws l3)⟩]] ++ (Gq ++ Gr) : List (List Ent))) := Lib.hid (by
                have hq4 := HDQ.out
                have hwl := WSL.out
                have hwl3 : (ws l3).length = q := by rw [ws_length, HL3.out, hqq.out]
                have f3 : Fam 3 (Own e16 23 ([⟨some ⟨wb, 0, none⟩, q, q⟩, ⟨some ⟨a1, 0, none⟩, q, q⟩, ⟨some ⟨a2, 0, none⟩, q, q⟩] ++ dq ++ dr) (fun _ l => l.length ≤ 4194304)) [[⟨wb, 23, row .u16 (ws l)⟩], [⟨a1, 23, row .u16 (ws l)⟩], [⟨a2, 23, row .u16 (ws l3)⟩]] := by
                  refine ⟨rfl, fun i G h => ?_⟩
                  rcases i with _ | _ | _ | i
                  · simp at h; subst h; exact own_w rfl hwl (by omega)
                  · simp at h; subst h; exact own_w rfl hwl (by omega)
                  · simp at h; subst h; exact own_w rfl hwl3 (by omega)
                  · simp at h
                have f7 : Fam 7 (Own e16 23 ([⟨some ⟨wb, 0, none⟩, q, q⟩, ⟨some ⟨a1, 0, none⟩, q, q⟩, ⟨some ⟨a2, 0, none⟩, q, q⟩] ++ dq ++ dr) (fun _ l => l.length ≤ 4194304)) ([[⟨wb, 23, row .u16 (ws l)⟩], [⟨a1, 23, row .u16 (ws l)⟩], [⟨a2, 23, row .u16 (ws l3)⟩]] ++ Gq) := by
                  have := f3.append (Xs := Gq) (fun j G hj => by
                    obtain ⟨d, r, h1, h2, h3⟩ := HFQ.out.2 j G hj
                    refine ⟨d, r, ?_, by show r.length ≤ 4194304; rw [h2, qr_length]; decide, h3⟩
                    have hjl : j < dq.length := (List.getElem?_eq_some_iff.1 h1).1
                    rw [List.append_assoc, List.getElem?_append_right (by simp), List.getElem?_append_left (by simp; omega)]
                    rw [← h1]; congr 1; simp)
                  rw [HFQ.out.1] at this
                  exact this
                have := f7.append (Xs := Gr) (fun j G hj => by
                  obtain ⟨d, r, h1, h2, h3⟩ := HFR.out.2 j G hj
                  refine ⟨d, r, ?_, by show r.length ≤ 4194304; rw [h2, qr_length]; decide, h3⟩
                  rw [List.getElem?_append_right (by simp [hq4]), ← h1]; congr 1; simp [hq4])
                rw [HFR.out.1, List.append_assoc] at this
                exact this)
              go_wp2_with fail
              refine (ap16_st (kk := 11) (ds := [⟨some ⟨wb, 0, none⟩, q, q⟩, ⟨some ⟨a1, 0, none⟩, q, q⟩, ⟨some ⟨a2, 0, none⟩, q, q⟩] ++ dq ++ dr) (Gs := ([[⟨wb, 23, row .u16 (ws l)⟩], [⟨a1, 23, row .u16 (ws l)⟩], [⟨a2, 23, row .u16 (ws l3)⟩]] ++ (Gq ++ Gr) : List (List Ent))) E11.out (by decide) SJ.out HF16.out (fun w' N' hs hm => HGW.out.read hs (fun e he => hm e (List.mem_append_right _ (List.mem_append_left _ he))))).mono ?_
              rintro e wF ⟨rfl, hF⟩
              have SK : Hid (St w wF [] ([⟨qb, 36, cellsV es dq⟩] ++ ([⟨rb, 36, cellsV es dr⟩] ++ ([⟨zb, 24, cellsV es [⟨A1, q, c1⟩, ⟨A2, q, c2⟩, ⟨A3, q, c3⟩, ⟨A4, q, c4⟩, ⟨B1, q, e1⟩, ⟨B2, q, e2⟩, ⟨A5, 2 * n, c5⟩, ⟨A6, 2 * n, c6⟩, ⟨B3, 2 * n, e3⟩, ⟨A7, n, c7⟩, ⟨A8, n, c8⟩]⟩] ++ (Gw ++ ([bt xb (l3 ++ tl)] ++ [bt nb Dy])))))) := Lib.hid (hF.perm (perm_of fun a => by simp only [List.flatten_append, List.flatten_cons, List.flatten_nil, List.nil_append, List.cons_append, List.append_nil, cnt_append, cnt_cons, cnt_nil, Nat.add_assoc, Nat.add_zero, Nat.zero_add]; try ac_rfl))
              clear hF SJ HF16
              go_wp2_with fail
              refine (outer_st HDQ.out HDR.out SK.out).mono ?_
              rintro e wG ⟨rfl, hG⟩
              have SL : Hid (St w wG [] ([bt xb (l3 ++ tl)] ++ [bt nb Dy])) := Lib.hid (hG.drop ((List.sublist_append_right Gw _).trans (List.sublist_append_right [_] _)))
              clear hG SK
              go_wp2_with fail
              refine ((quarters_own c _ hc)).mono ?_
              rintro e w47 ⟨sb, dz, Gz, rfl, hdz, hfz, hh⟩
              have h47 := SL.out.call hh; clear hh SL
              try simp only [List.nil_append, List.cons_append, List.append_eq, Int.toNat_natCast] at h47
              have HDZ := Lib.hid hdz; have HFZ := Lib.hid hfz; clear hdz hfz
              have S47 := Lib.hid h47; clear h47
              go_wp2_with fail
              refine (equal_st HL3.out (by omega) (rdHead8 (tl := tl) S47.out HL3.out (by simp)) (S47.out.rdTake (b := nb) (t := 5) (D := Dy) (by simp) Q9.out)).mono ?_
              rintro e w48 ⟨rfl, hh⟩
              have h48 := S47.out.call hh; clear hh S47
              try simp only [List.nil_append, List.cons_append, List.append_eq, Int.toNat_natCast] at h48
              have S48 := Lib.hid h48; clear h48
              obtain ⟨G0, _, ⟨⟨X, y, z⟩, r, h1, rfl, h3⟩, hm0⟩ := HFZ.out.get (show 0 < 4 by decide)
              have hy : y = 16 := by have := h3.len; simp only at this; rw [this, qr_length]
              subst hy
              have m0 := (S48.out.blk (b := sb) (t := 36) (c := cellsV es dz) (by simp)).cell (cellsV_get (enc := es) h1)
              simp only [es] at m0
              obtain ⟨b0, o0, eX, k0⟩ := ((Grow.hold h3).rd S48.out (fun e he => by simp [hm0 e he])) (by rw [qr_length]; decide)
              simp only at eX
              have g1 : gm c (1 * 16 ^ 0) = c := by rw [show 1 * 16 ^ 0 = 1 from rfl]; exact gm_one hc
              have g0 : gm c (0 * 16 ^ 0) = 0 := by rw [show 0 * 16 ^ 0 = 0 from rfl]; exact gm_zero_right c
              have k1 := k0 1 (gm c (1 * 16 ^ 0)) (by simp [qr])
              have k2 := k0 0 (gm c (0 * 16 ^ 0)) (by simp [qr])
              rw [g1] at k1
              rw [g0, Nat.add_zero] at k2
              subst eX
              clear k0 h3 h1 hm0
              go_wp2_with fail
              go_ret
              exact ⟨rfl, S48.out.below⟩

end Go.Proofs.Ytadgjmlkpnifoaa.Pq
