/- Layer 9: Spread. -/
import Derived.Test.YtdbfkjhdnbmpeaaKg
namespace Go.Proofs.Ytdbfkjhdnbmpeaa.Sk
set_option linter.unusedSimpArgs false
set_option linter.unusedVariables false
open Go Go.RowKit Go.Proofs.Ytdbfkjhdnbmpeaa Go.Proofs.Ytdbfkjhdnbmpeaa.Mm Go.Proofs.Ytdbfkjhdnbmpeaa.Gf Go.Proofs.Ytdbfkjhdnbmpeaa.Wr Go.Proofs.Ytdbfkjhdnbmpeaa.Nb Go.Proofs.Ytdbfkjhdnbmpeaa.St

def SprOk (col diff : List Nat) (L : List (List Nat)) : Prop := col.length = L.length ∧ ∀ l ∈ L, l.length = diff.length
instance (col diff : List Nat) (L : List (List Nat)) : Decidable (SprOk col diff L) := by unfold SprOk; infer_instance
/-- What Spread refuses. -/
def sprE (col diff : List Nat) (L : List (List Nat)) (f t : Int) : Int := if SprOk col diff L then rngE f t diff.length else 6
theorem spr_zero {col diff : List Nat} {L : List (List Nat)} {f t : Int} (h : sprE col diff L f t = 0) : SprOk col diff L ∧ 0 ≤ f ∧ f ≤ t ∧ t ≤ (diff.length : Int) := by
  unfold sprE at h
  split at h
  · rename_i h1
    unfold rngE at h
    split at h
    · rename_i h2; exact ⟨h1, h2⟩
    · exact absurd h (by decide)
  · exact absurd h (by decide)
/-- One list with c times the difference added within the span. -/
def spr1 (c : Nat) (diff D : List Nat) (f k : Nat) : List Nat := Wr.wr D f ((List.range k).map fun u => D.getD (f + u) 0 ^^^ gm c (diff.getD (f + u) 0))
theorem spr1_length (c : Nat) (diff D : List Nat) (f k : Nat) : (spr1 c diff D f k).length = D.length := wr_length _ _ _
theorem spr1_cut {c : Nat} {diff D : List Nat} {od f k : Nat} (h : 0 < k → od = f) : Wr.wr D od ((List.range k).map fun u => D.getD (od + u) 0 ^^^ gm c (((diff.drop f).take k).getD u 0)) = spr1 c diff D f k := by
  rcases Nat.eq_zero_or_pos k with h0 | h0
  · subst h0; rfl
  · rw [h h0]
    unfold spr1
    congr 1
    apply List.map_congr_left
    intro u hu
    have hu' : u < k := by simpa using hu
    congr 2
    rw [List.getD_eq_getElem?_getD, List.getElem?_take, if_pos hu', List.getElem?_drop, ← List.getD_eq_getElem?_getD]
def sprR (col diff : List Nat) (L : List (List Nat)) (f k : Nat) : Nat → List (List Nat)
  | 0 => L
  | i + 1 => (sprR col diff L f k i).set i (spr1 (col.getD i 0) diff (L.getD i []) f k)
def sprL (col diff : List Nat) (L : List (List Nat)) (f k : Nat) : List (List Nat) := sprR col diff L f k L.length
theorem sprR_length (col diff : List Nat) (L : List (List Nat)) (f k : Nat) : ∀ i, (sprR col diff L f k i).length = L.length
  | 0 => rfl
  | i + 1 => by rw [sprR, List.length_set, sprR_length col diff L f k i]
theorem sprR_get (col diff : List Nat) (L : List (List Nat)) (f k : Nat) : ∀ (i j : Nat), (sprR col diff L f k i).getD j [] = if j < i ∧ j < L.length then spr1 (col.getD j 0) diff (L.getD j []) f k else L.getD j []
  | 0, j => by rw [if_neg (by omega)]; rfl
  | i + 1, j => by
    rw [sprR, List.getD_eq_getElem?_getD, List.getElem?_set]
    by_cases h : i = j
    · subst h
      rw [if_pos rfl, sprR_length]
      by_cases h2 : i < L.length
      · rw [if_pos h2, if_pos (by omega)]; rfl
      · rw [if_neg h2, if_neg (by omega)]; simp [h2]
    · rw [if_neg h, ← List.getD_eq_getElem?_getD, sprR_get col diff L f k i j]
      by_cases h2 : j < i ∧ j < L.length
      · rw [if_pos h2, if_pos (by omega)]
      · rw [if_neg h2, if_neg (by omega)]
theorem sprL_get {col diff : List Nat} {L : List (List Nat)} {f k j : Nat} (h : j < L.length) : (sprL col diff L f k).getD j [] = spr1 (col.getD j 0) diff (L.getD j []) f k := by
  unfold sprL; rw [sprR_get, if_pos ⟨h, h⟩]
theorem sprL_length (col diff : List Nat) (L : List (List Nat)) (f k : Nat) : (sprL col diff L f k).length = L.length := sprR_length _ _ _ _ _ _

set_option maxRecDepth 100000 in
theorem spread_nil (v1 v2 v3 : Value) (f t : Int) (w : World) : Calls Try.prog 19 #[.pointer none, v1, v2, v3, .agg #[.int .i64 f, .int .i64 t]] w fun e w' => e = .returned (.int .i64 1) ∧ St w w' [] [] := by
  have S0 := Lib.hid (St.start w)
  go_enter Try.func19, Try.ntmps19
  go_wp2_with ((with_reducible refine at_slot (N := 9) rfl ?_); refine box_law rfl _ _ #[.int .i64 f, .int .i64 t] rfl rfl S0.out ?_; intro sb w1 h1; (try simp only [World.size_alloc, List.nil_append, List.cons_append, List.append_eq] at h1); have S1 := Lib.hid h1; clear h1 S0)
  go_ret
  exact ⟨rfl, S1.out.nil⟩

set_option maxRecDepth 100000 in
set_option maxHeartbeats 4000000 in
theorem spread_bad {p j : Nat} {S : List Ent} {A1 A2 A3 : Option Addr} {n1 n2 n3 c1 c2 c3 : Nat} {col diff : List Nat} {L : List (List Nat)} {f t : Int} {w : World} (hS : SetE p j S) (hb : There w S) (h1 : col.length = n1) (h2 : diff.length = n2) (h3 : L.length = n3) (hf3 : Fit L)
    (hd : RdL w [] A3 L) (hn2 : n2 ≤ 140737488351232) (hE : sprE col diff L f t ≠ 0) :
    Calls Try.prog 19 #[.pointer (some ⟨p, 0, none⟩), .slice A1 n1 c1, .slice A2 n2 c2, .slice A3 n3 c3, .agg #[.int .i64 f, .int .i64 t]] w fun e w' => e = .returned (.int .i64 (sprE col diff L f t)) ∧ St w w' [] [] := by
  obtain ⟨T, x, hp⟩ := There.head hS
  obtain ⟨E, HE⟩ : ∃ E, Hid (sprE col diff L f t = E) := ⟨_, Lib.hid rfl⟩
  rw [HE.out] at hE ⊢
  have H6 : Hid (¬ SprOk col diff L → E = 6) := Lib.hid (fun h => by rw [← HE.out]; unfold sprE; rw [if_neg h])
  have HO : Hid (SprOk col diff L → E = rngE f t (n2 : Int)) := Lib.hid (fun h => by rw [← HE.out, ← h2]; unfold sprE; rw [if_pos h])
  have q1 : (E == 0) = false := by simpa using hE
  have q2 : (E != 0) = true := by rw [bne_iff_ne]; exact hE
  have m0 := (hb _ hp).cell (i := 0) rfl
  have HB := Lib.hid hb; have HP := Lib.hid hp; have H1 := Lib.hid h1; have H2 := Lib.hid h2; have H3 := Lib.hid h3; have F3 := Lib.hid hf3; have HD := Lib.hid hd
  have S0 := Lib.hid (St.start w)
  have hb3 : n3 ≤ 140737488351232 := by have := hf3.1; omega
  clear hS hb h1 h2 h3 hf3 hd hE hp
  by_cases h13 : n1 = n3
  · subst h13
    go_enter Try.func19, Try.ntmps19
    go_wp2_with ((with_reducible refine at_slot (N := 9) rfl ?_); refine box_law rfl _ _ #[.int .i64 f, .int .i64 t] rfl rfl S0.out ?_; intro sb w1 h1; have m1 := ((HB.out.keep h1 (by simp)) _ HP.out).cell (i := 0) rfl; clear m0; (try simp only [World.size_alloc, List.nil_append, List.cons_append, List.append_eq] at h1); have S1 := Lib.hid h1; clear h1 S0)
    clear m1
    go_loop [33] (fun vi => ∃ i : Nat, i ≤ n1 ∧ vi = .int .i64 i ∧ ∀ j, j < i → (L.getD j []).length = n2) (fun vi => n1 - (intOf vi).toNat)
    case atStart => exact ⟨0, by omega, rfl, fun j hj => by omega⟩
    case round =>
      obtain ⟨i, hi, rfl, hall⟩ := hrel
      have HALL := Lib.hid hall; clear hall
      by_cases hlt : i < n1
      · obtain ⟨b4, o4, B4, d4, e4, x4, g4, r4, _⟩ := (S1.out.extL HD.out).at (i := i) (by rw [H3.out]; exact hlt)
        subst e4
        have HMEM : Hid (L.getD i [] ∈ L) := Lib.hid (mem_getD (by rw [H3.out]; exact hlt))
        obtain ⟨q, hq⟩ : ∃ q, Hid ((L.getD i []).length = q) := ⟨_, Lib.hid rfl⟩
        rw [hq.out] at x4
        clear r4 g4
        have i1 : (i : Int) < (n1 : Int) := by omega
        by_cases hqn : q = n2
        · subst hqn
          go_wp2_with fail
          clear x4
          go_round
          case rel => exact ⟨i + 1, by omega, by go_num, fun j hj => by
            rcases Nat.lt_or_ge j i with h | h
            · exact HALL.out j h
            · obtain rfl : j = i := by omega
              exact hq.out⟩
          case measure => simp [intOf]; omega
        · have q1 : (q == n2) = false := by simpa using hqn
          have q2 : (((q : Nat) : Int) != ((n2 : Nat) : Int)) = true := by rw [bne_iff_ne]; omega
          have q3 : (q != n2) = true := by rw [bne_iff_ne]; exact hqn
          have HQ : Hid (E = 6) := Lib.hid (H6.out fun h => hqn (by rw [← hq.out, ← H2.out]; exact h.2 _ HMEM.out))
          clear hqn
          go_wp2_with fail
          go_ret
          have hq := HQ.out
          subst hq
          exact ⟨rfl, S1.out.nil⟩
      · obtain rfl : i = n1 := by omega
        have HEE : Hid (E = rngE f t (n2 : Int)) := Lib.hid (HO.out ⟨by rw [H1.out, H3.out], fun r hr => by
          obtain ⟨u, hu, rfl⟩ := List.getElem_of_mem hr
          have := HALL.out u (by rw [← H3.out]; exact hu)
          rw [H2.out, ← this]; simp [hu]⟩)
        have y0 := (S1.out.blk (b := sb) (t := 32) (c := #[.int .i64 f, .int .i64 t]) mem0).cell (i := 0) rfl
        have y1 := (S1.out.blk (b := sb) (t := 32) (c := #[.int .i64 f, .int .i64 t]) mem0).cell (i := 1) rfl
        clear hlt
        have HW := Lib.hid (within_st f t (n2 : Int))
        rw [← HEE.out] at HW
        go_wp2_with fail
        refine (HW.out _).mono ?_
        rintro e w2 ⟨rfl, hh⟩
        have h2 := S1.out.call hh; clear hh S1
        try simp only [List.nil_append, List.cons_append, List.append_eq, Int.toNat_natCast] at h2
        have S2 := Lib.hid h2; clear h2
        go_wp2_with fail
        go_ret
        exact ⟨rfl, S2.out.nil⟩
  · have q1 : (n1 == n3) = false := by simpa using h13
    have q2 : (((n1 : Nat) : Int) != ((n3 : Nat) : Int)) = true := by rw [bne_iff_ne]; omega
    have q3 : (n1 != n3) = true := by rw [bne_iff_ne]; exact h13
    have HQ : Hid (E = 6) := Lib.hid (H6.out fun h => h13 (by rw [← H1.out, ← H3.out]; exact h.1))
    clear h13
    go_enter Try.func19, Try.ntmps19
    go_wp2_with ((with_reducible refine at_slot (N := 9) rfl ?_); refine box_law rfl _ _ #[.int .i64 f, .int .i64 t] rfl rfl S0.out ?_; intro sb w1 h1; have m1 := ((HB.out.keep h1 (by simp)) _ HP.out).cell (i := 0) rfl; clear m0; (try simp only [World.size_alloc, List.nil_append, List.cons_append, List.append_eq] at h1); have S1 := Lib.hid h1; clear h1 S0)
    go_ret
    have hq := HQ.out
    subst hq
    exact ⟨rfl, S1.out.nil⟩

set_option maxRecDepth 100000 in
set_option maxHeartbeats 4000000 in
theorem spread_ok {p j : Nat} {S : List Ent} {A1 A2 A3 : Option Addr} {n1 n2 n3 c1 c2 c3 : Nat} {col diff : List Nat} {L : List (List Nat)} {bs : List Nat} {f t : Nat} {w : World} (hS : SetE p j S) (hb : There w S) (hne : ∀ e ∈ S, e.b ∉ bs) (h1 : col.length = n1) (h2 : diff.length = n2) (h3 : L.length = n3) (hf3 : Fit L) (hn2 : n2 ≤ 140737488351232) (hc2 : n2 ≤ c2)
    (h81 : B8 col) (h82 : B8 diff) (h83 : B8L L) (hbs : bs.length = L.length) (hX : St w w (ents bs L) []) (hr : Rd w A1 col) (hA1 : Off bs A1) (hs : Rd w A2 diff) (hA2 : Off bs A2) (hd : RdV es w A3 (sds bs L)) (hA3 : Off bs A3) (hE : sprE col diff L (f : Int) (t : Int) = 0) :
    Calls Try.prog 19 #[.pointer (some ⟨p, 0, none⟩), .slice A1 n1 c1, .slice A2 n2 c2, .slice A3 n3 c3, .agg #[.int .i64 (f : Int), .int .i64 (t : Int)]] w fun e w' => e = .returned (.int .i64 0) ∧ St w w' (ents bs (sprL col diff L f (t - f))) [] := by
  obtain ⟨⟨g1, g2⟩, g4, g5, g6⟩ := spr_zero hE
  obtain rfl : n1 = n3 := by omega
  obtain ⟨k, hk⟩ : ∃ k, t = f + k := ⟨t - f, by omega⟩
  subst hk
  rw [show f + k - f = k by omega]
  have hfk : f + k ≤ n2 := by omega
  have hrng : rngE (f : Int) ((f : Int) + (k : Int)) (n2 : Int) = 0 := by unfold rngE; rw [if_pos (by omega)]
  have HW := Lib.hid (within_st (f : Int) ((f : Int) + (k : Int)) (n2 : Int))
  rw [hrng] at HW
  obtain ⟨T, x, F, r, hSe, hK⟩ := hS.ker
  have HK := Lib.hid hK
  have HPM := Lib.hid (show (⟨p, 79, #[.iface T (.pointer (some x)), .int .i64 (j : Int)]⟩ : Ent) ∈ S by rw [hSe]; exact mem0)
  have hb1 : n1 ≤ 140737488351232 := by have := hf3.1; omega
  have m0 := (hb _ HPM.out).cell (i := 0) rfl
  have HB := Lib.hid hb; have HNE := Lib.hid hne; have H1 := Lib.hid h1; have H2 := Lib.hid h2; have H3 := Lib.hid h3; have F3 := Lib.hid hf3
  have H81 := Lib.hid h81; have H82 := Lib.hid h82; have H83 := Lib.hid h83; have HBS := Lib.hid hbs; have HR := Lib.hid hr; have HA1 := Lib.hid hA1; have HS := Lib.hid hs; have HA2 := Lib.hid hA2; have HD := Lib.hid hd; have HA3 := Lib.hid hA3
  have G2 := Lib.hid g2
  have S0 : Hid (St w w (ents bs (sprR col diff L f k 0)) []) := Lib.hid hX
  have HEND : Hid (sprR col diff L f k n1 = sprL col diff L f k) := Lib.hid (by unfold sprL; rw [h3])
  have HAL := Lib.hid (sprR_length col diff L f k)
  clear hS hb hne h1 h2 h3 hf3 h81 h82 h83 hbs hX hr hs hd hA1 hA2 hA3 hE g1 g2 g4 g5 g6 hSe hK hrng
  go_enter Try.func19, Try.ntmps19
  go_wp2_with ((with_reducible refine at_slot (N := 9) rfl ?_); refine box_law rfl _ _ #[.int .i64 (f : Int), .int .i64 ((f + k : Nat) : Int)] rfl rfl S0.out ?_; intro sb w1 h1; have m1 := ((HB.out.keep h1 (fun e he x hx hxe => HNE.out e he (by rw [← hxe]; exact ents_b' HBS.out x hx))) _ HPM.out).cell (i := 0) rfl; clear m0; (try simp only [World.size_alloc, List.nil_append, List.cons_append, List.append_eq] at h1); have S1 := Lib.hid h1; clear h1 S0)
  clear m1
  go_loop [33] (fun vi => ∃ i : Nat, i ≤ n1 ∧ vi = .int .i64 i) (fun vi => n1 - (intOf vi).toNat)
  case atStart => exact ⟨0, by omega, rfl⟩
  case round =>
    obtain ⟨i, hi, rfl⟩ := hrel
    by_cases hlt : i < n1
    · obtain ⟨b5, o5, e5, k5⟩ := (S1.out.rdVX HD.out HA3.out (ents_b' HBS.out)) (by rw [sds_length HBS.out, H3.out]; omega)
      have x5 := k5 i _ (sds_get HBS.out (by rw [H3.out]; exact hlt))
      subst e5
      clear k5
      simp only [es] at x5
      rw [G2.out _ (mem_getD (by rw [H3.out]; exact hlt)), H2.out] at x5
      have i1 : (i : Int) < (n1 : Int) := by omega
      go_wp2_with fail
      clear x5
      go_round
      case rel => exact ⟨i + 1, by omega, by go_num⟩
      case measure => simp [intOf]; omega
    · obtain rfl : i = n1 := by omega
      have y0 := (S1.out.blk (b := sb) (t := 32) (c := #[.int .i64 (f : Int), .int .i64 ((f + k : Nat) : Int)]) mem0).cell (i := 0) rfl
      have y1 := (S1.out.blk (b := sb) (t := 32) (c := #[.int .i64 (f : Int), .int .i64 ((f + k : Nat) : Int)]) mem0).cell (i := 1) rfl
      go_wp2_with fail
      refine (HW.out _).mono ?_
      rintro e w2 ⟨rfl, hh⟩
      have h2 := S1.out.call hh; clear hh S1
      try simp only [List.nil_append, List.cons_append, List.append_eq, Int.toNat_natCast] at h2
      have S2 := Lib.hid h2; clear h2
      have SQ := S2; clear S2
      go_wp2_with fail
      clear HW y0 y1 hi hlt
      obtain ⟨n1, rfl⟩ : ∃ n1, n1 = i := ⟨_, rfl⟩
      go_loopw [52] (fun vi wq => ∃ i : Nat, i ≤ n1 ∧ vi = .int .i64 i ∧ St w wq (ents bs (sprR col diff L f k i)) [⟨sb, 32, #[.int .i64 (f : Int), .int .i64 ((f + k : Nat) : Int)]⟩]) (fun vi _ => n1 - (intOf vi).toNat)
      case atStart => exact ⟨0, by omega, rfl, SQ.out⟩
      case round =>
        clear SQ
        obtain ⟨i, hi, rfl, hs⟩ := hrel
        have S3 := Lib.hid hs; clear hs
        by_cases hlt : i < n1
        · have y0 := (S3.out.blk (b := sb) (t := 32) (c := #[.int .i64 (f : Int), .int .i64 ((f + k : Nat) : Int)]) mem0).cell (i := 0) rfl
          have y1 := (S3.out.blk (b := sb) (t := 32) (c := #[.int .i64 (f : Int), .int .i64 ((f + k : Nat) : Int)]) mem0).cell (i := 1) rfl
          have HBE := Lib.hid (ents_b' (bs := bs) (L := sprR col diff L f k i) (by rw [HBS.out, HAL.out]))
          obtain ⟨b4, o4, e4, k4⟩ := (S3.out.rdX HR.out HA1.out HBE.out) (by rw [H1.out]; omega)
          have x4 := k4 i (by rw [H1.out]; exact hlt)
          subst e4
          clear k4
          have hc := H81.out.get (i := i) (by rw [H1.out]; exact hlt)
          obtain ⟨b5, o5, e5, k5⟩ := (S3.out.rdVX HD.out HA3.out HBE.out) (by rw [sds_length HBS.out, H3.out]; omega)
          have x5 := k5 i _ (sds_get HBS.out (by rw [H3.out]; exact hlt))
          subst e5
          clear k5
          simp only [es] at x5
          have HLN : Hid ((L.getD i []).length = n2) := Lib.hid (by rw [G2.out _ (mem_getD (by rw [H3.out]; exact hlt)), H2.out])
          rw [HLN.out] at x5
          have HBB : Hid (bs.getD i 0 ∈ bs) := Lib.hid (mem_getD (by rw [HBS.out, H3.out]; exact hlt))
          obtain ⟨P, Q, hP, hQ⟩ := ents_split (bs := bs) (L := sprR col diff L f k i) (i := i) (by rw [HBS.out, HAL.out]) (by rw [HAL.out, H3.out]; exact hlt)
          have HP := Lib.hid hP; have HQ := Lib.hid hQ; clear hP hQ
          have HGI : Hid ((sprR col diff L f k i).getD i [] = L.getD i []) := Lib.hid (by rw [sprR_get, if_neg (by omega)])
          rw [HGI.out] at HP
          have HST : Hid ((sprR col diff L f k i).set i (spr1 (col.getD i 0) diff (L.getD i []) f k) = sprR col diff L f k (i + 1)) := Lib.hid rfl
          have HQ2 := Lib.hid (HQ.out (spr1 (col.getD i 0) diff (L.getD i []) f k))
          rw [HST.out] at HQ2
          have H8L := Lib.hid (H83.out.get i)
          have S4 : Hid (St w wr (P ++ bt (bs.getD i 0) (L.getD i []) :: Q) [⟨sb, 32, #[.int .i64 (f : Int), .int .i64 ((f + k : Nat) : Int)]⟩]) := Lib.hid (by rw [← HP.out]; exact S3.out)
          clear HQ HGI HST
          generalize bs.getD i 0 = bd at *
          generalize L.getD i [] = D at *
          generalize col.getD i 0 = c at *
          have m0 := ((HB.out.keep S3.out (fun e he x hx hxe => HNE.out e he (by rw [← hxe]; exact HBE.out x hx))) _ HPM.out).cell (i := 0) rfl
          obtain ⟨od, hod, hod1, hod2⟩ := cutA_some (b := bd) (o := 0) n2 f
          have HODW := Lib.hid (spr1_cut (c := c) (diff := diff) (D := D) (od := od) (f := f) (k := k) (fun h => by rw [hod2 (by omega)]; omega))
          have HOD := Lib.hid hod
          have HNEB : Hid (∀ e ∈ S, e.b ≠ bd) := Lib.hid (fun e he hb => HNE.out e he (by rw [hb]; exact HBB.out))
          have c0 : (0 : Int) ≤ (c : Int) := by omega
          have c1' : (c : Int) < 256 := by omega
          have hodk : od + k ≤ D.length := by rw [HLN.out]; omega
          have HODK := Lib.hid hodk
          clear hod hod1 hod2 hodk
          have i1 : (i : Int) < (n1 : Int) := by omega
          have f0 : (0 : Int) ≤ (f : Int) := by omega
          have k0 : (0 : Int) ≤ (k : Int) := by omega
          go_wp2_with fail
          refine Qt.quiet_tail 23 (by kernel_rfl) (by kernel_rfl) ?_
          simp only [List.take_succ_cons, List.take_zero, List.drop_succ_cons, List.drop_zero]
          iterate 14 (first | go_big_quiet_step (fail) | quiet_step (fail))
          refine quiet_slice rfl 39 5 Try.underlying39 (by kernel_rfl) _ _ _ rfl (some ⟨bd, 0, none⟩) n2 n2 f k rfl _ _ rfl rfl rfl (by simp) hfk ?_
          rw [HOD.out]
          iterate 5 (first | go_big_quiet_step (fail) | quiet_step (fail))
          refine quiet_slice rfl 39 5 Try.underlying39 (by kernel_rfl) _ _ _ rfl A2 n2 c2 f k rfl _ _ rfl rfl rfl (by simp) (by omega) ?_
          iterate 2 (first | go_big_quiet_step (fail) | quiet_step (fail))
          refine wpQuiet_nil ?_
          rintro _ ⟨nq, rfl⟩
          have hm := HK.out.meth
          have hcf := HK.out.call
          clear x4 x5 y0 y1 m0
          go_wp2_with fail
          clear hm hcf
          refine (HK.out.add (c := (c : Int)) (bd := bd) (od := od) (n := k) (cd := n2 - f) (D := D) (l := (diff.drop f).take k) (HB.out.keep (S3.out.drewN (n := nq)) (fun e he x hx hxe => HNE.out e he (by rw [← hxe]; exact HBE.out x hx))) HNEB.out c0 c1' ((S4.out.drewN (n := nq)).blkW (by simp)) HODK.out (by rw [List.length_take, List.length_drop, H2.out]; omega) (H82.out.piece f k) H8L.out (by omega) (by omega) (by omega) (.inl ⟨Rd.cut ((S3.out.drewN (n := nq)).rdX HS.out HA2.out HBE.out) c2 f k (by rw [H2.out]; exact hc2), (HA2.out.sub (fun x hx => by rw [List.mem_singleton] at hx; rw [hx]; exact HBB.out)).cut⟩)).mono ?_
          rintro e w3 ⟨rfl, hh⟩
          have h5 := (S4.out.drewN (n := nq)).callW hh
          rw [Int.toNat_natCast, HODW.out, ← HQ2.out, List.nil_append] at h5
          have S5 := Lib.hid h5
          clear hh h5 S4 S3
          go_wp2_with fail
          refine ⟨⟨i + 1, by omega, by simp, S5.out⟩, ?_⟩
          simp [intOf]; omega
        · obtain rfl : i = n1 := by omega
          rw [HEND.out] at S3
          go_wp2_with fail
          go_ret
          exact ⟨rfl, S3.out.nil⟩

end Go.Proofs.Ytdbfkjhdnbmpeaa.Sk
