/- Layer 9: the set's calls over copies that are made for the call, as steps of a law. -/
import Derived.Test.YtdbfkjhdnbmpeaaKj
namespace Go.Proofs.Ytdbfkjhdnbmpeaa.Sk
set_option linter.unusedSimpArgs false
set_option linter.unusedVariables false
open Go Go.RowKit Go.Proofs.Ytdbfkjhdnbmpeaa Go.Proofs.Ytdbfkjhdnbmpeaa.Mm Go.Proofs.Ytdbfkjhdnbmpeaa.Gf Go.Proofs.Ytdbfkjhdnbmpeaa.Wr Go.Proofs.Ytdbfkjhdnbmpeaa.Nb Go.Proofs.Ytdbfkjhdnbmpeaa.St

/-- What Mul, MulAdd, Dot answer and make, refused or not. -/
def lenE (n m : Nat) : Int := if n = m then 0 else 6
def mulD (c : Nat) (D l : List Nat) : List Nat := if D.length = l.length then l.map (gm c) else D
def addD (c : Nat) (D l : List Nat) : List Nat := if D.length = l.length then xs D (l.map (gm c)) else D
def xorD (D l : List Nat) : List Nat := if D.length = l.length then xs D l else D
def dotE (row : List Nat) (srcs : List (List Nat)) (n : Nat) : Int := if DotOk row srcs n then 0 else 6
def dotD (row : List Nat) (srcs : List (List Nat)) (D : List Nat) : List Nat := if DotOk row srcs D.length then sumL row srcs 0 D.length else D
theorem mulD_length (c : Nat) (D l : List Nat) : (mulD c D l).length = D.length := by
  unfold mulD; split
  · rename_i h; rw [List.length_map, h]
  · rfl
theorem addD_length (c : Nat) (D l : List Nat) : (addD c D l).length = D.length := by
  unfold addD; split
  · rw [xs_length]
  · rfl
theorem xorD_length (D l : List Nat) : (xorD D l).length = D.length := by
  unfold xorD; split
  · rw [xs_length]
  · rfl
theorem dotD_length (row : List Nat) (srcs : List (List Nat)) (D : List Nat) : (dotD row srcs D).length = D.length := by
  unfold dotD; split
  · rw [sumL_length]
  · rfl
theorem addD_b8 {c : Nat} {D l : List Nat} (hc : c < 256) (hD : B8 D) (hl : B8 l) : B8 (addD c D l) := by
  unfold addD; split
  · rename_i h; exact xs_b8 hD (B8.map hl fun x _ => gm_lt x hc) (by rw [List.length_map]; exact h)
  · exact hD
theorem mulD_b8 {c : Nat} {D l : List Nat} (hc : c < 256) (hD : B8 D) : B8 (mulD c D l) := by
  unfold mulD; split
  · intro x hx
    obtain ⟨y, _, rfl⟩ := List.mem_map.1 hx
    exact gm_lt y hc
  · exact hD
theorem xorD_b8 {D l : List Nat} (hD : B8 D) (hl : B8 l) : B8 (xorD D l) := by
  unfold xorD; split
  · rename_i h; exact xs_b8 hD hl h
  · exact hD
theorem sumL_b8 {row : List Nat} {srcs : List (List Nat)} {f n : Nat} (h8 : B8 row) : B8 (sumL row srcs f n) := sumK_b8 h8 (Nat.le_refl _)
theorem dotD_b8 {row : List Nat} {srcs : List (List Nat)} {D : List Nat} (hD : B8 D) (h8 : B8 row) : B8 (dotD row srcs D) := by
  unfold dotD; split
  · exact sumL_b8 h8
  · exact hD
theorem B8L.set {L : List (List Nat)} (h : B8L L) (i : Nat) {l : List Nat} (hl : B8 l) : B8L (L.set i l) := fun x hx => (List.mem_or_eq_of_mem_set hx).elim (h x) (fun e => e ▸ hl)
theorem appR_b8 {rows srcs L : List (List Nat)} {f k : Nat} (h1 : B8L rows) (h3 : B8L L) : ∀ i, B8L (appR rows srcs L f k i)
  | 0 => h3
  | i + 1 => (appR_b8 h1 h3 i).set i (wr_b8 (h3.get i) (sumL_b8 (h1.get i)))
theorem appE_b8 {rows srcs L : List (List Nat)} {f t : Int} (h1 : B8L rows) (h3 : B8L L) : B8L (appE rows srcs L f t) := by
  unfold appE; split
  · exact appR_b8 h1 h3 _
  · exact h3
theorem spr1_b8 {c : Nat} {diff D : List Nat} {f k : Nat} (hc : c < 256) (hD : B8 D) : B8 (spr1 c diff D f k) := by
  refine wr_b8 hD fun x hx => ?_
  obtain ⟨u, _, rfl⟩ := List.mem_map.1 hx
  refine Nat.xor_lt_two_pow (n := 8) ?_ (gm_lt _ hc)
  by_cases hu : f + u < D.length
  · exact hD.get hu
  · simp [List.getD_eq_getElem?_getD, List.getElem?_eq_none (Nat.le_of_not_lt hu)]
theorem get_lt {l : List Nat} (h : B8 l) (i : Nat) : l.getD i 0 < 256 := by
  by_cases hu : i < l.length
  · exact h.get hu
  · simp [List.getD_eq_getElem?_getD, List.getElem?_eq_none (Nat.le_of_not_lt hu)]
theorem sprR_b8 {col diff : List Nat} {L : List (List Nat)} {f k : Nat} (h1 : B8 col) (h3 : B8L L) : ∀ i, B8L (sprR col diff L f k i)
  | 0 => h3
  | i + 1 => (sprR_b8 h1 h3 i).set i (spr1_b8 (get_lt h1 i) (h3.get i))
theorem sprD_b8 {col diff : List Nat} {L : List (List Nat)} {f t : Int} (h1 : B8 col) (h3 : B8L L) : B8L (sprD col diff L f t) := by
  unfold sprD; split
  · exact sprR_b8 h1 h3 _
  · exact h3
theorem Fit.len {L L' : List (List Nat)} (h : Fit L) (hl : L'.map (·.length) = L.map (·.length)) : Fit L' := by
  have e : L'.length = L.length := by have := congrArg List.length hl; simpa using this
  refine ⟨by rw [e]; exact h.1, fun l hm => ?_⟩
  have : l.length ∈ L'.map (·.length) := List.mem_map.2 ⟨l, hm, rfl⟩
  rw [hl] at this
  obtain ⟨l2, h2, e2⟩ := List.mem_map.1 this
  rw [← e2]; exact h.2 l2 h2

section
variable {p j : Nat} {S M M1 M2 : List Ent} {w0 w wA wB wC : World} {a n m : Nat} {D l : List Nat} {r1 r2 : Nat}
theorem mulC {c : Int} (SE : SetE p j S) (h : St w0 w [] (M1 ++ bt a D :: M2)) (hS : ∀ e ∈ S, e ∈ M1 ++ bt a D :: M2) (k1 : St w wA [] [bt r1 l]) (hc0 : 0 ≤ c) (hc : c < 256) (hD : D.length = n) (h8D : B8 D) (hl : l.length = m) (h8 : B8 l) (hn : n ≤ 140737488351232) :
    Calls Try.prog 26 #[.pointer (some ⟨p, 0, none⟩), .int .u8 c, .slice (some ⟨a, 0, none⟩) n n, .slice (some ⟨r1, 0, none⟩) m m] wA fun e w' => e = .returned (.int .i64 (lenE n m)) ∧ St w0 w' [] (M1 ++ bt a (mulD c.toNat D l) :: M2) := by
  have h1 := h.call k1
  unfold lenE mulD
  by_cases hnm : n = m
  · subst hnm
    rw [if_pos rfl, if_pos (by rw [hD, hl])]
    exact mulS (X := [bt r1 l]) SE h1 (fun e he => List.mem_append_right _ (hS e he)) hc0 hc hD h8D hl h8 (Nat.le_refl _) hn (St.rdT (X := [bt r1 l]) h1 (by simp) (fun b hb => ⟨bt a D, by simp, by simp at hb; exact hb.symm⟩))
  · rw [if_neg hnm, if_neg (by rw [hD, hl]; exact hnm)]
    exact (smul_lens SE (There.of h1 (fun e he => List.mem_append_right _ (hS e he))) hnm).mono fun e w' ⟨he, hw⟩ => ⟨he, by subst hw; exact h1.drop (List.sublist_append_right _ _)⟩
theorem addC {c : Int} (SE : SetE p j S) (h : St w0 w [] (M1 ++ bt a D :: M2)) (hS : ∀ e ∈ S, e ∈ M1 ++ bt a D :: M2) (k1 : St w wA [] [bt r1 l]) (hc0 : 0 ≤ c) (hc : c < 256) (hD : D.length = n) (h8D : B8 D) (hl : l.length = m) (h8 : B8 l) (hn : n ≤ 140737488351232) :
    Calls Try.prog 17 #[.pointer (some ⟨p, 0, none⟩), .int .u8 c, .slice (some ⟨a, 0, none⟩) n n, .slice (some ⟨r1, 0, none⟩) m m] wA fun e w' => e = .returned (.int .i64 (lenE n m)) ∧ St w0 w' [] (M1 ++ bt a (addD c.toNat D l) :: M2) := by
  have h1 := h.call k1
  unfold lenE addD
  by_cases hnm : n = m
  · subst hnm
    rw [if_pos rfl, if_pos (by rw [hD, hl])]
    exact addS (X := [bt r1 l]) SE h1 (fun e he => List.mem_append_right _ (hS e he)) hc0 hc hD h8D hl h8 (Nat.le_refl _) hn (St.rdT (X := [bt r1 l]) h1 (by simp) (fun b hb => ⟨bt a D, by simp, by simp at hb; exact hb.symm⟩))
  · rw [if_neg hnm, if_neg (by rw [hD, hl]; exact hnm)]
    exact (sadd_lens SE (There.of h1 (fun e he => List.mem_append_right _ (hS e he))) hnm).mono fun e w' ⟨he, hw⟩ => ⟨he, by subst hw; exact h1.drop (List.sublist_append_right _ _)⟩
theorem xorC (h : St w0 w [] (M1 ++ bt a D :: M2)) (k1 : St w wA [] [bt r1 l]) (hD : D.length = n) (h8D : B8 D) (hl : l.length = m) (h8 : B8 l) (hn : n ≤ 140737488351232) :
    Calls Try.prog 22 #[.slice (some ⟨a, 0, none⟩) n n, .slice (some ⟨r1, 0, none⟩) m m] wA fun e w' => e = .returned (.int .i64 (lenE n m)) ∧ St w0 w' [] (M1 ++ bt a (xorD D l) :: M2) := by
  have h1 := h.call k1
  unfold lenE xorD
  by_cases hnm : n = m
  · subst hnm
    rw [if_pos rfl, if_pos (by rw [hD, hl])]
    exact xorS (X := [bt r1 l]) h1 hD h8D hl h8 hn (St.rdT (X := [bt r1 l]) h1 (by simp) (fun b hb => ⟨bt a D, by simp, by simp at hb; exact hb.symm⟩))
  · rw [if_neg hnm, if_neg (by rw [hD, hl]; exact hnm)]
    exact (xor_lens _ _ _ _ _ _ _ hnm).mono fun e w' ⟨he, hw⟩ => ⟨he, by subst hw; exact h1.drop (List.sublist_append_right _ _)⟩
variable {A' A2 A3 : Option Addr} {c' c2 c3 k n1 n2 n3 : Nat} {row : List Nat} {srcs rows L : List (List Nat)} {bs bs1 bs2 bs3 : List Nat} {G G1 G2 G3 : List Ent}
theorem dotC (SE : SetE p j S) (h : St w0 w [] (M1 ++ bt a D :: M2)) (hS : ∀ e ∈ S, e ∈ M1 ++ bt a D :: M2) (k1 : St w wA [] [bt r1 row]) (k2 : St wA wB [] (G ++ ents bs srcs)) (hc : CopyL A' m c' bs srcs G) (hD : D.length = n) (h8D : B8 D) (hk : row.length = k) (hr8 : B8 row) (hf : Fit srcs) (hs8 : B8L srcs) (hn : n ≤ 140737488351232) :
    Calls Try.prog 18 #[.pointer (some ⟨p, 0, none⟩), .slice (some ⟨r1, 0, none⟩) k k, .slice A' m c', .slice (some ⟨a, 0, none⟩) n n] wB fun e w' => e = .returned (.int .i64 (dotE row srcs n)) ∧ St w0 w' [] (M1 ++ bt a (dotD row srcs D) :: M2) := by
  have h2 : St w0 wB [] (((G ++ ents bs srcs) ++ [bt r1 row]) ++ (M1 ++ bt a D :: M2)) := by rw [List.append_assoc]; exact (h.call k1).call k2
  have hx : ∀ b ∈ [a], ∃ e ∈ M1 ++ bt a D :: M2, e.b = b := fun b hb => ⟨bt a D, by simp, by simp at hb; exact hb.symm⟩
  have hs := hc.rdT h2 (fun e he => by simp [he]) (fun e he => by simp [he]) hx
  have hm := hc.2.1.symm
  unfold dotE dotD
  by_cases hok : DotOk row srcs n
  · rw [if_pos hok, if_pos (by rw [hD]; exact hok), hD]
    exact dotS SE h2 (fun e he => List.mem_append_right _ (hS e he)) hD h8D hk (h2.rdT (by simp) hx) hr8 hm hf hs hs8 hn hok
  · rw [if_neg hok, if_neg (by rw [hD]; exact hok)]
    exact dotB SE h2 (fun e he => List.mem_append_right _ (hS e he)) hk hm hf (hs.sub (by simp)) hn hok
theorem applyC {f t : Int} (SE : SetE p j S) (h : St w0 w [] (M1 ++ (ents bs L ++ M2))) (hS : ∀ e ∈ S, e ∈ M1 ++ (ents bs L ++ M2)) (hG : ∀ e ∈ G, e ∈ M1 ∨ e ∈ M2) (hd : CopyL A3 n3 c3 bs L G) (k1 : St w wA [] (G1 ++ ents bs1 rows)) (hc1 : CopyL A' n1 c' bs1 rows G1) (k2 : St wA wB [] (G2 ++ ents bs2 srcs)) (hc2 : CopyL A2 n2 c2 bs2 srcs G2)
    (hf1 : Fit rows) (hf2 : Fit srcs) (hf3 : Fit L) (h81 : B8L rows) (h82 : B8L srcs) (h83 : B8L L) :
    Calls Try.prog 14 #[.pointer (some ⟨p, 0, none⟩), .slice A' n1 c', .slice A2 n2 c2, .slice A3 n3 c3, .agg #[.int .i64 f, .int .i64 t]] wB fun e w' => e = .returned (.int .i64 (fitsE rows srcs L f t)) ∧ St w0 w' [] (M1 ++ (ents bs (appE rows srcs L f t) ++ M2)) := by
  have h2 : St w0 wB [] (((G2 ++ ents bs2 srcs) ++ (G1 ++ ents bs1 rows)) ++ (M1 ++ (ents bs L ++ M2))) := by rw [List.append_assoc]; exact (h.call k1).call k2
  have hx : ∀ b ∈ bs, ∃ e ∈ M1 ++ (ents bs L ++ M2), e.b = b := fun b hb => by
    obtain ⟨e, he, hb⟩ := ents_of hd.1 hb
    exact ⟨e, by simp [he], hb⟩
  have hGm : ∀ e ∈ G, e ∈ ((G2 ++ ents bs2 srcs) ++ (G1 ++ ents bs1 rows)) ++ (M1 ++ (ents bs L ++ M2)) := fun e he => by rcases hG e he with h | h <;> simp [h]
  refine applyS SE h2 (fun e he => List.mem_append_right _ (hS e he)) hc1.2.1.symm hc2.2.1.symm hd.2.1.symm hf1 hf2 hf3 h81 h82 h83 hd.1 (hc1.rdT h2 (fun e he => by simp [he]) (fun e he => by simp [he]) hx) (hc2.rdT h2 (fun e he => by simp [he]) (fun e he => by simp [he]) hx) (hd.rdV h2 hGm) (hd.off fun e he hb => ?_)
  obtain ⟨e', he', hb'⟩ := ents_of hd.1 hb
  rcases hG e he with hm | hm
  · have h3 : St w0 wB [] ((((G2 ++ ents bs2 srcs) ++ (G1 ++ ents bs1 rows)) ++ M1) ++ (ents bs L ++ M2)) := by rw [List.append_assoc]; exact h2
    exact h3.apart (e := e) (e' := e') (by simp [hm]) (by simp [he']) hb'.symm
  · have h3 : St w0 wB [] (((((G2 ++ ents bs2 srcs) ++ (G1 ++ ents bs1 rows)) ++ M1) ++ ents bs L) ++ M2) := by rw [List.append_assoc, List.append_assoc]; exact h2
    exact h3.apart (e := e') (e' := e) (by simp [he']) hm hb'
theorem agreesC {f t : Int} (SE : SetE p j S) (h : St w0 w [] M) (hS : ∀ e ∈ S, e ∈ M) (k1 : St w wA [] (G1 ++ ents bs1 rows)) (hc1 : CopyL A' n1 c' bs1 rows G1) (k2 : St wA wB [] (G2 ++ ents bs2 srcs)) (hc2 : CopyL A2 n2 c2 bs2 srcs G2) (hd : RdL wB [] A3 L) (h3 : L.length = n3)
    (hf1 : Fit rows) (hf2 : Fit srcs) (hf3 : Fit L) (h81 : B8L rows) (h82 : B8L srcs) (h83 : B8L L) :
    Calls Try.prog 15 #[.pointer (some ⟨p, 0, none⟩), .slice A' n1 c', .slice A2 n2 c2, .slice A3 n3 c3, .agg #[.int .i64 f, .int .i64 t]] wB fun e w' => e = .returned (.tuple #[.bool (agrE rows srcs L f t), .int .i64 (fitsE rows srcs L f t)]) ∧ St w0 w' [] M := by
  have h2 : St w0 wB [] (((G2 ++ ents bs2 srcs) ++ (G1 ++ ents bs1 rows)) ++ M) := by rw [List.append_assoc]; exact (h.call k1).call k2
  exact agreesS SE h2 (fun e he => List.mem_append_right _ (hS e he)) hc1.2.1.symm hc2.2.1.symm h3 hf1 hf2 hf3 h81 h82 h83 (hc1.rdLow h2 (fun e he => by simp [he]) (fun e he => by simp [he])) (hc2.rdLow h2 (fun e he => by simp [he]) (fun e he => by simp [he])) hd
theorem spreadC {f t : Int} {col diff : List Nat} (SE : SetE p j S) (h : St w0 w [] (M1 ++ (ents bs L ++ M2))) (hS : ∀ e ∈ S, e ∈ M1 ++ (ents bs L ++ M2)) (hG : ∀ e ∈ G, e ∈ M1 ∨ e ∈ M2) (hd : CopyL A3 n3 c3 bs L G) (k1 : St w wA [] [bt r1 col]) (k2 : St wA wB [] [bt r2 diff])
    (h1 : col.length = n1) (h2 : diff.length = n2) (hf3 : Fit L) (hn2 : n2 ≤ 140737488351232) (h81 : B8 col) (h82 : B8 diff) (h83 : B8L L) :
    Calls Try.prog 19 #[.pointer (some ⟨p, 0, none⟩), .slice (some ⟨r1, 0, none⟩) n1 n1, .slice (some ⟨r2, 0, none⟩) n2 n2, .slice A3 n3 c3, .agg #[.int .i64 f, .int .i64 t]] wB fun e w' => e = .returned (.int .i64 (sprE col diff L f t)) ∧ St w0 w' [] (M1 ++ (ents bs (sprD col diff L f t) ++ M2)) := by
  have hh : St w0 wB [] (([bt r2 diff] ++ [bt r1 col]) ++ (M1 ++ (ents bs L ++ M2))) := by rw [List.append_assoc]; exact (h.call k1).call k2
  have hx : ∀ b ∈ bs, ∃ e ∈ M1 ++ (ents bs L ++ M2), e.b = b := fun b hb => by
    obtain ⟨e, he, hb⟩ := ents_of hd.1 hb
    exact ⟨e, by simp [he], hb⟩
  have hGm : ∀ e ∈ G, e ∈ ([bt r2 diff] ++ [bt r1 col]) ++ (M1 ++ (ents bs L ++ M2)) := fun e he => by rcases hG e he with h | h <;> simp [h]
  refine spreadS SE hh (fun e he => List.mem_append_right _ (hS e he)) h1 h2 hd.2.1.symm hf3 hn2 (Nat.le_refl _) h81 h82 h83 hd.1 (hh.rdT (by simp) hx) (hh.rdT (by simp) hx) (hd.rdV hh hGm) (hd.off fun e he hb => ?_)
  obtain ⟨e', he', hb'⟩ := ents_of hd.1 hb
  rcases hG e he with hm | hm
  · have h3 : St w0 wB [] ((([bt r2 diff] ++ [bt r1 col]) ++ M1) ++ (ents bs L ++ M2)) := by rw [List.append_assoc]; exact hh
    exact h3.apart (e := e) (e' := e') (by simp [hm]) (by simp [he']) hb'.symm
  · have h3 : St w0 wB [] (((([bt r2 diff] ++ [bt r1 col]) ++ M1) ++ ents bs L) ++ M2) := by rw [List.append_assoc, List.append_assoc]; exact hh
    exact h3.apart (e := e') (e' := e) (by simp [he']) hm hb'
end

/-- The three sets at hand: one of them. -/
theorem pick3 {p0 p1 p2 : Nat} {T0 T1 T2 G : List Ent} (h0 : SetE p0 0 T0) (h1 : SetE p1 1 T1) (h2 : SetE p2 2 T2) {i : Nat} (hi : i < 3) : ∃ p S, ([some p0, some p1, some p2] : List (Option Nat))[i]? = some (some p) ∧ SetE p i S ∧ ∀ e ∈ S, e ∈ G ++ (T0 ++ (T1 ++ T2)) := by
  rcases i with _ | _ | _ | i
  · exact ⟨p0, T0, rfl, h0, fun e he => by simp [he]⟩
  · exact ⟨p1, T1, rfl, h1, fun e he => by simp [he]⟩
  · exact ⟨p2, T2, rfl, h2, fun e he => by simp [he]⟩
  · omega

/-- A slice of slices among the arguments, opened. -/
theorem open_lists9 {B : Nat} {w : World} {A : Option Addr} {n c : Nat} {L : List (List Nat)} (h : (Kk.kSlice (Kk.kSlice Kk.kByte 1) 24).ok B w [.slice A n c] L) : L.length = n ∧ RdL w [] A L ∧ Fit L ∧ B8L L := by
  obtain ⟨A', c', he, hlc, _, hr, hrow⟩ := h
  injection he with he _
  injection he with e1 e2 e3
  subst e1 e2 e3
  have key : ∀ i, i < L.length → ∃ d : Sd, (∀ b off, A = some ⟨b, off, none⟩ → w.cell? ⟨b, off + i, none⟩ = some (es d)) ∧ d.n = (L.getD i []).length ∧ d.n ≤ d.c ∧ Rd w d.A (L.getD i []) ∧ B8 (L.getD i []) ∧ (L.getD i []).length ≤ 140737488351232 := by
    intro i hi
    obtain ⟨b, off, hA, _, hc⟩ := hrow (by omega)
    obtain ⟨cs, hok, hcell⟩ := hc i hi
    have e : L.getD i [] = L[i] := by simp [hi]
    obtain ⟨A2, c2, ecs, h2⟩ := hok
    obtain ⟨g1, g2, g3, g4, g5, _⟩ := open_bytes (l := L[i]) (n := L[i].length) (c := c2) (A := A2) (w := w) ⟨A2, c2, rfl, h2⟩
    have := hcell 0 _ (by rw [ecs]; rfl)
    refine ⟨⟨A2, L[i].length, c2⟩, fun b' off' hA' => ?_, by rw [e], g3, by rw [e]; exact g4, by rw [e]; exact g5, by rw [e]; exact g2⟩
    rw [hA] at hA'
    injection hA' with hA'
    injection hA' with e1 e2 _
    subst e1 e2
    simpa [Kk.kSlice] using this
  refine ⟨rfl, ⟨List.ofFn fun i : Fin L.length => Classical.choose (key i i.2), fun h0 => ?_, Off.nil _, by simp, fun i d hd => ?_⟩, ⟨by unfold reachBytes at hr; omega, fun l hl => ?_⟩, fun l hl => ?_⟩
  · obtain ⟨b, off, hA, _, _⟩ := hrow (by simpa using h0)
    refine ⟨b, off, hA, fun i x hx => ?_⟩
    rw [List.getElem?_ofFn] at hx
    split at hx
    · rename_i hi
      injection hx with hx
      rw [← hx]
      exact (Classical.choose_spec (key i hi)).1 b off hA
    · cases hx
  · rw [List.getElem?_ofFn] at hd
    split at hd
    · rename_i hi
      injection hd with hd
      rw [← hd]
      have := Classical.choose_spec (key i hi)
      exact ⟨this.2.1, this.2.2.1, this.2.2.2.1, Off.nil _⟩
    · cases hd
  · obtain ⟨i, hi, rfl⟩ := List.getElem_of_mem hl
    have := (Classical.choose_spec (key i hi)).2.2.2.2.2
    have e : L.getD i [] = L[i] := by simp [hi]
    rw [e] at this; exact this
  · obtain ⟨i, hi, rfl⟩ := List.getElem_of_mem hl
    have := (Classical.choose_spec (key i hi)).2.2.2.2.1
    have e : L.getD i [] = L[i] := by simp [hi]
    rw [e] at this; exact this

end Go.Proofs.Ytdbfkjhdnbmpeaa.Sk
