/- Layer 9: the set's calls over copies that are made for the call, as steps of a law. -/
import Derived.Test.YtdbfkjhdnbmpeaaKi

namespace Go.Proofs.Ytdbfkjhdnbmpeaa.St
set_option linter.unusedSimpArgs false
set_option linter.unusedVariables false
open Go Go.RowKit Go.Proofs.Ytdbfkjhdnbmpeaa Go.Proofs.Ytdbfkjhdnbmpeaa.Mm Go.Proofs.Ytdbfkjhdnbmpeaa.Wr

section
variable {w0 w w' : World} {W N N' M M1 M2 X Y : List Ent} {b : Nat} {t t' : TypeId} {c c' : Array Value}
theorem St.inj (h : St w0 w W N) {e e' : Ent} (he : e ∈ N) (he' : e' ∈ N) (hb : e.b = e'.b) : e = e' := by
  obtain ⟨i, hi, rfl⟩ := List.getElem_of_mem he
  obtain ⟨j, hj, rfl⟩ := List.getElem_of_mem he'
  by_cases hij : i = j
  · subst hij; rfl
  · exact absurd hb (h.ne i j (by simp [hi]) (by simp [hj]) hij)
/-- One of the lists at hand written; what was made for it forgotten. -/
theorem St.doneN (h : St w0 w W (X ++ (M1 ++ ⟨b, t, c⟩ :: M2))) (k : St w w' [⟨b, t', c'⟩] N') : St w0 w' W (M1 ++ ⟨b, t', c'⟩ :: M2) := by
  have h2 : St w0 w W ((X ++ M1) ++ ⟨b, t, c⟩ :: M2) := by rw [List.append_assoc]; exact h
  have := h2.callN k
  refine this.drop ?_
  rw [List.append_assoc]
  exact (List.sublist_append_right X _).trans (List.sublist_append_right N' _)
/-- .. several. -/
theorem St.doneNs (h : St w0 w W (X ++ (M1 ++ (Y ++ M2)))) {Y' : List Ent} (k : St w w' Y' N') (hY : Y'.map (·.b) = Y.map (·.b)) : St w0 w' W (M1 ++ (Y' ++ M2)) := by
  have h2 : St w0 w W ((X ++ M1) ++ (Y ++ M2)) := by rw [List.append_assoc]; exact h
  have := h2.callNs k hY
  refine this.drop ?_
  rw [List.append_assoc]
  exact (List.sublist_append_right X _).trans (List.sublist_append_right N' _)
/-- .. none. -/
theorem St.done0 (h : St w0 w W (X ++ M)) (k : St w w' [] N') : St w0 w' W M :=
  (h.call k).drop ((List.sublist_append_right X _).trans (List.sublist_append_right N' _))
/-- A list made for the call: it reads, and lies apart from the lists at hand. -/
theorem St.rdT {r : Nat} {l xs : List Nat} (h : St w0 w W (X ++ M)) (m : bt r l ∈ X) (hx : ∀ b ∈ xs, ∃ e ∈ M, e.b = b) : Rd w (some ⟨r, 0, none⟩) l ∧ Off xs (some ⟨r, 0, none⟩) :=
  ⟨h.rd (List.mem_append_left _ m), Off.some fun hr => by
    obtain ⟨e, he, hb⟩ := hx _ hr
    exact h.apart m he hb.symm⟩
theorem ents_of {bs : List Nat} {L : List (List Nat)} (h : bs.length = L.length) {b : Nat} (hb : b ∈ bs) : ∃ e ∈ ents bs L, e.b = b := by
  rw [← ents_b h] at hb
  obtain ⟨e, he, hb⟩ := List.mem_map.1 hb
  exact ⟨e, he, hb⟩
theorem CopyL.rdT {A : Option Addr} {n k : Nat} {bs xs : List Nat} {L : List (List Nat)} {G : List Ent} (h : CopyL A n k bs L G) (hs : St w0 w W (X ++ M)) (hG : ∀ e ∈ G, e ∈ X) (hE : ∀ e ∈ ents bs L, e ∈ X) (hx : ∀ b ∈ xs, ∃ e ∈ M, e.b = b) : RdL w xs A L := by
  refine h.rd hs (fun e he => List.mem_append_left _ (hG e he)) (fun e he => List.mem_append_left _ (hE e he)) (fun e he hb => ?_) (fun b hb hbx => ?_)
  · obtain ⟨e', he', hb'⟩ := hx _ hb
    exact hs.apart (hG e he) he' hb'.symm
  · obtain ⟨e, he, rfl⟩ := ents_of h.1 hb
    obtain ⟨e', he', hb'⟩ := hx _ hbx
    exact hs.apart (hE e he) he' hb'.symm
/-- .. and apart from all that comes. -/
theorem CopyL.rdLow {A : Option Addr} {n k : Nat} {bs : List Nat} {L : List (List Nat)} {G : List Ent} (h : CopyL A n k bs L G) (hs : St w0 w W N) (hG : ∀ e ∈ G, e ∈ N) (hE : ∀ e ∈ ents bs L, e ∈ N) : ∀ x, w.heap.size ≤ x → RdL w [x] A L := by
  intro x hx
  refine h.rd hs hG hE (fun e he hb => ?_) (fun b hb hbx => ?_)
  · have := (hs.new e (hG e he)).2.lt
    simp at hb; omega
  · obtain ⟨e, he, rfl⟩ := ents_of h.1 hb
    have := (hs.new e (hE e he)).2.lt
    simp at hbx; omega
theorem CopyL.rd0 {A : Option Addr} {n k : Nat} {bs : List Nat} {L : List (List Nat)} {G : List Ent} (h : CopyL A n k bs L G) (hs : St w0 w W N) (hG : ∀ e ∈ G, e ∈ N) (hE : ∀ e ∈ ents bs L, e ∈ N) : RdL w [] A L :=
  (h.rdLow hs hG hE _ (Nat.le_refl _)).sub (by simp)
/-- .. its lists written, it is still the same list of lists. -/
theorem CopyL.len {A : Option Addr} {n k : Nat} {bs : List Nat} {L L' : List (List Nat)} {G : List Ent} (h : CopyL A n k bs L G) (hl : L'.map (·.length) = L.map (·.length)) : CopyL A n k bs L' G := by
  have e : L'.length = L.length := by have := congrArg List.length hl; simpa using this
  refine ⟨by rw [e]; exact h.1, by rw [e]; exact h.2.1, ?_, h.2.2.2⟩
  rw [sds_len hl]; exact h.2.2.1
end

end Go.Proofs.Ytdbfkjhdnbmpeaa.St
namespace Go.Proofs.Ytdbfkjhdnbmpeaa.Sk
open Go Go.RowKit Go.Proofs.Ytdbfkjhdnbmpeaa Go.Proofs.Ytdbfkjhdnbmpeaa.Mm Go.Proofs.Ytdbfkjhdnbmpeaa.Gf Go.Proofs.Ytdbfkjhdnbmpeaa.Wr Go.Proofs.Ytdbfkjhdnbmpeaa.Nb Go.Proofs.Ytdbfkjhdnbmpeaa.St

theorem SetE.type {p j : Nat} {S : List Ent} (h : SetE p j S) : ∀ e ∈ S, e.t ≠ 5 := by
  rcases h with ⟨_, kb, rfl⟩ | ⟨_, x, rfl⟩ | ⟨_, x, rfl⟩ <;> intro e he <;> simp only [List.mem_cons, List.not_mem_nil, or_false] at he
  · rcases he with rfl | rfl
    · show 79 ≠ 5; decide
    · show 104 ≠ 5; decide
  · subst he; show 79 ≠ 5; decide
  · subst he; show 79 ≠ 5; decide
theorem SetE.ne {p j : Nat} {S N W : List Ent} {w0 w : World} (h : SetE p j S) (hs : St w0 w W N) (hS : ∀ e ∈ S, e ∈ N) {b : Nat} {l : List Nat} (hb : bt b l ∈ N) : ∀ e ∈ S, e.b ≠ b := fun e he hbe => by
  have := hs.inj (hS e he) hb hbe
  exact h.type e he (by rw [this])
theorem SetE.nes {p j : Nat} {S N W : List Ent} {w0 w : World} (h : SetE p j S) (hs : St w0 w W N) (hS : ∀ e ∈ S, e ∈ N) {bs : List Nat} {L : List (List Nat)} (hl : bs.length = L.length) (hb : ∀ e ∈ ents bs L, e ∈ N) : ∀ e ∈ S, e.b ∉ bs := fun e he hbe => by
  obtain ⟨i, hi, hbi⟩ := List.getElem_of_mem hbe
  have hm := hb _ (ents_mem hl (i := i) (by omega))
  have e1 : bs.getD i 0 = e.b := by rw [← hbi]; simp [hi]
  exact h.ne hs hS hm e he e1.symm

section
variable {p j : Nat} {S X M M1 M2 : List Ent} {w0 w : World} {a n cs : Nat} {D l : List Nat} {A : Option Addr}
theorem mulS {c : Int} (SE : SetE p j S) (h : St w0 w [] (X ++ (M1 ++ bt a D :: M2))) (hS : ∀ e ∈ S, e ∈ X ++ (M1 ++ bt a D :: M2)) (hc0 : 0 ≤ c) (hc : c < 256) (hD : D.length = n) (h8D : B8 D) (hl : l.length = n) (h8 : B8 l) (hcs : n ≤ cs) (hn : n ≤ 140737488351232) (hr : Rd w A l ∧ Off [a] A) :
    Calls Try.prog 26 #[.pointer (some ⟨p, 0, none⟩), .int .u8 c, .slice (some ⟨a, 0, none⟩) n n, .slice A n cs] w fun e w' => e = .returned (.int .i64 0) ∧ St w0 w' [] (M1 ++ bt a (l.map (gm c.toNat)) :: M2) := by
  refine (smul_at (D := D) SE (There.of h hS) (SE.ne h hS (b := a) (l := D) (by simp)) hc0 hc (h.blk (by simp)) (by omega) hl h8 h8D (Nat.le_refl _) hcs (by omega) (.inl hr)).mono fun e w' ⟨he, hk⟩ => ⟨he, ?_⟩
  rw [wr_all _ _ (by rw [List.length_map, hD, hl])] at hk
  exact h.doneN hk
theorem addS {c : Int} (SE : SetE p j S) (h : St w0 w [] (X ++ (M1 ++ bt a D :: M2))) (hS : ∀ e ∈ S, e ∈ X ++ (M1 ++ bt a D :: M2)) (hc0 : 0 ≤ c) (hc : c < 256) (hD : D.length = n) (h8D : B8 D) (hl : l.length = n) (h8 : B8 l) (hcs : n ≤ cs) (hn : n ≤ 140737488351232) (hr : Rd w A l ∧ Off [a] A) :
    Calls Try.prog 17 #[.pointer (some ⟨p, 0, none⟩), .int .u8 c, .slice (some ⟨a, 0, none⟩) n n, .slice A n cs] w fun e w' => e = .returned (.int .i64 0) ∧ St w0 w' [] (M1 ++ bt a (xs D (l.map (gm c.toNat))) :: M2) := by
  refine (sadd_at (D := D) SE (There.of h hS) (SE.ne h hS (b := a) (l := D) (by simp)) hc0 hc (h.blk (by simp)) (by omega) hl h8 h8D (Nat.le_refl _) hcs (by omega) (.inl hr)).mono fun e w' ⟨he, hk⟩ => ⟨he, ?_⟩
  rw [Tk.add_wr hD hl] at hk
  exact h.doneN hk
theorem xorS (h : St w0 w [] (X ++ (M1 ++ bt a D :: M2))) (hD : D.length = n) (h8D : B8 D) (hl : l.length = n) (h8 : B8 l) (hn : n ≤ 140737488351232) (hr : Rd w A l ∧ Off [a] A) :
    Calls Try.prog 22 #[.slice (some ⟨a, 0, none⟩) n n, .slice A n cs] w fun e w' => e = .returned (.int .i64 0) ∧ St w0 w' [] (M1 ++ bt a (xs D l) :: M2) := by
  refine (xor_at (D := D) (h.blk (by simp)) (by omega) hl h8 h8D (by omega) (.inl hr)).mono fun e w' ⟨he, hk⟩ => ⟨he, ?_⟩
  have e1 : ((List.range n).map fun i => D.getD (0 + i) 0 ^^^ l.getD i 0) = xs D l := by
    unfold xs; rw [hD]
    apply List.map_congr_left
    intro i _; rw [Nat.zero_add]
  rw [e1, wr_all _ _ (by rw [xs_length])] at hk
  exact h.doneN hk
theorem dotS {Ar As : Option Addr} {k kc m mc : Nat} {row : List Nat} {srcs : List (List Nat)} (SE : SetE p j S) (h : St w0 w [] (X ++ (M1 ++ bt a D :: M2))) (hS : ∀ e ∈ S, e ∈ X ++ (M1 ++ bt a D :: M2)) (hD : D.length = n) (h8D : B8 D) (hk : row.length = k) (hr : Rd w Ar row ∧ Off [a] Ar) (hr8 : B8 row) (hm : srcs.length = m) (hf : Fit srcs) (hs : RdL w [a] As srcs) (hs8 : B8L srcs) (hn : n ≤ 140737488351232) (hok : DotOk row srcs n) :
    Calls Try.prog 18 #[.pointer (some ⟨p, 0, none⟩), .slice Ar k kc, .slice As m mc, .slice (some ⟨a, 0, none⟩) n n] w fun e w' => e = .returned (.int .i64 0) ∧ St w0 w' [] (M1 ++ bt a (sumL row srcs 0 n) :: M2) := by
  refine (dot_ok (D := D) SE (There.of h hS) (SE.ne h hS (b := a) (l := D) (by simp)) (h.blk (by simp)) (by omega) h8D (Nat.le_refl _) hk hr.1 hr.2 hr8 hm hf hs hs8 hn hok).mono fun e w' ⟨he, hk⟩ => ⟨he, ?_⟩
  rw [wr_all _ _ (by rw [sumL_length, hD])] at hk
  exact h.doneN hk
theorem dotB {Ar As Ad : Option Addr} {k kc m mc cd : Nat} {row : List Nat} {srcs : List (List Nat)} (SE : SetE p j S) (h : St w0 w [] (X ++ M)) (hS : ∀ e ∈ S, e ∈ X ++ M) (hk : row.length = k) (hm : srcs.length = m) (hf : Fit srcs) (hs : RdL w [] As srcs) (hn : n ≤ 140737488351232) (hbad : ¬ DotOk row srcs n) :
    Calls Try.prog 18 #[.pointer (some ⟨p, 0, none⟩), .slice Ar k kc, .slice As m mc, .slice Ad n cd] w fun e w' => e = .returned (.int .i64 6) ∧ St w0 w' [] M :=
  (dot_bad SE (There.of h hS) hk hm hf hs hn hbad).mono fun e w' ⟨he, hw⟩ => ⟨he, by subst hw; exact h.drop (List.sublist_append_right _ _)⟩
variable {A1 A2 A3 : Option Addr} {n1 n2 n3 c1 c2 c3 : Nat} {rows srcs L : List (List Nat)} {bs : List Nat}
/-- What Apply makes of the lists, whether it is refused or not. -/
def appE (rows srcs L : List (List Nat)) (f t : Int) : List (List Nat) := if fitsE rows srcs L f t = 0 then appL rows srcs L f.toNat (t - f).toNat else L
theorem appL_len {rows srcs L : List (List Nat)} {f k : Nat} : (appL rows srcs L f k).map (·.length) = L.map (·.length) := appR_len _
theorem appE_len {rows srcs L : List (List Nat)} {f t : Int} : (appE rows srcs L f t).map (·.length) = L.map (·.length) := by
  unfold appE; split
  · exact appL_len
  · rfl
theorem applyS {f t : Int} (SE : SetE p j S) (h : St w0 w [] (X ++ (M1 ++ (ents bs L ++ M2)))) (hS : ∀ e ∈ S, e ∈ X ++ (M1 ++ (ents bs L ++ M2))) (h1 : rows.length = n1) (h2 : srcs.length = n2) (h3 : L.length = n3) (hf1 : Fit rows) (hf2 : Fit srcs) (hf3 : Fit L)
    (h81 : B8L rows) (h82 : B8L srcs) (h83 : B8L L) (hbs : bs.length = L.length) (hr : RdL w bs A1 rows) (hs : RdL w bs A2 srcs) (hd : RdV es w A3 (sds bs L)) (hA3 : Off bs A3) :
    Calls Try.prog 14 #[.pointer (some ⟨p, 0, none⟩), .slice A1 n1 c1, .slice A2 n2 c2, .slice A3 n3 c3, .agg #[.int .i64 f, .int .i64 t]] w fun e w' => e = .returned (.int .i64 (fitsE rows srcs L f t)) ∧ St w0 w' [] (M1 ++ (ents bs (appE rows srcs L f t) ++ M2)) := by
  have hE : ∀ e ∈ ents bs L, e ∈ X ++ (M1 ++ (ents bs L ++ M2)) := fun e he => by simp [he]
  by_cases h0 : fitsE rows srcs L f t = 0
  · obtain ⟨_, g4, g5, _⟩ := fits_zero h0
    obtain ⟨f, rfl⟩ := Int.eq_ofNat_of_zero_le g4
    obtain ⟨t, rfl⟩ := Int.eq_ofNat_of_zero_le (show 0 ≤ t by omega)
    have hX : St w w (ents bs L) [] := by
      have : St w0 w [] ((X ++ M1) ++ (ents bs L ++ M2)) := by rw [List.append_assoc]; exact h
      exact this.subX
    rw [h0]
    unfold appE
    rw [if_pos h0, show ((t : Int) - (f : Int)).toNat = t - f by omega, Int.toNat_natCast]
    refine (apply_ok SE (There.of h hS) (SE.nes h hS hbs hE) h1 h2 h3 hf1 hf2 hf3 h81 h82 h83 hbs hX hr hs hd hA3 h0).mono fun e w' ⟨he, hk⟩ => ⟨he, ?_⟩
    exact h.doneNs hk (by rw [ents_b hbs, ents_b (by rw [appL_length]; exact hbs)])
  · unfold appE
    rw [if_neg h0]
    refine (apply_bad SE (There.of h hS) h1 h2 h3 hf1 hf2 hf3 (hr.sub (by simp)) (hs.sub (by simp)) (rdL_of hbs hd (Off.nil _) (fun e he => (h.new e (hE e he)).2) (by simp)) h0).mono fun e w' ⟨he, hk⟩ => ⟨he, h.done0 hk⟩
/-- What Agrees answers. -/
def agrE (rows srcs L : List (List Nat)) (f t : Int) : Bool := if fitsE rows srcs L f t = 0 then decide (Agr rows srcs L f.toNat (t - f).toNat) else false
theorem agreesS {f t : Int} (SE : SetE p j S) (h : St w0 w [] (X ++ M)) (hS : ∀ e ∈ S, e ∈ X ++ M) (h1 : rows.length = n1) (h2 : srcs.length = n2) (h3 : L.length = n3) (hf1 : Fit rows) (hf2 : Fit srcs) (hf3 : Fit L)
    (h81 : B8L rows) (h82 : B8L srcs) (h83 : B8L L) (hr : ∀ x, w.heap.size ≤ x → RdL w [x] A1 rows) (hs : ∀ x, w.heap.size ≤ x → RdL w [x] A2 srcs) (hd : RdL w [] A3 L) :
    Calls Try.prog 15 #[.pointer (some ⟨p, 0, none⟩), .slice A1 n1 c1, .slice A2 n2 c2, .slice A3 n3 c3, .agg #[.int .i64 f, .int .i64 t]] w fun e w' => e = .returned (.tuple #[.bool (agrE rows srcs L f t), .int .i64 (fitsE rows srcs L f t)]) ∧ St w0 w' [] M := by
  by_cases h0 : fitsE rows srcs L f t = 0
  · obtain ⟨_, g4, g5, _⟩ := fits_zero h0
    obtain ⟨f, rfl⟩ := Int.eq_ofNat_of_zero_le g4
    obtain ⟨t, rfl⟩ := Int.eq_ofNat_of_zero_le (show 0 ≤ t by omega)
    unfold agrE
    rw [if_pos h0, h0, show ((t : Int) - (f : Int)).toNat = t - f by omega, Int.toNat_natCast]
    exact (agrees_ok SE (There.of h hS) h1 h2 h3 hf1 hf2 hf3 h81 h82 h83 hr hs hd h0).mono fun e w' ⟨he, hk⟩ => ⟨he, h.done0 hk⟩
  · unfold agrE
    rw [if_neg h0]
    exact (agrees_bad SE (There.of h hS) h1 h2 h3 hf1 hf2 hf3 ((hr _ (Nat.le_refl _)).sub (by simp)) ((hs _ (Nat.le_refl _)).sub (by simp)) hd h0).mono fun e w' ⟨he, hk⟩ => ⟨he, h.done0 hk⟩
/-- What Spread makes of the lists. -/
def sprD (col diff : List Nat) (L : List (List Nat)) (f t : Int) : List (List Nat) := if sprE col diff L f t = 0 then sprL col diff L f.toNat (t - f).toNat else L
theorem sprL_len {col diff : List Nat} {L : List (List Nat)} {f k : Nat} : (sprL col diff L f k).map (·.length) = L.map (·.length) := by
  apply List.ext_getElem?
  intro j
  have e := sprL_length col diff L f k
  rw [List.getElem?_map, List.getElem?_map]
  by_cases hj : j < L.length
  · have h1 : (sprL col diff L f k)[j]? = some ((sprL col diff L f k).getD j []) := by simp [show j < (sprL col diff L f k).length by omega]
    have h2 : L[j]? = some (L.getD j []) := by simp [hj]
    rw [h1, h2, sprL_get hj]
    simp only [Option.map_some, spr1_length]
  · rw [List.getElem?_eq_none (by omega), List.getElem?_eq_none (by omega)]
theorem sprD_len {col diff : List Nat} {L : List (List Nat)} {f t : Int} : (sprD col diff L f t).map (·.length) = L.map (·.length) := by
  unfold sprD; split
  · exact sprL_len
  · rfl
theorem spreadS {f t : Int} {col diff : List Nat} (SE : SetE p j S) (h : St w0 w [] (X ++ (M1 ++ (ents bs L ++ M2)))) (hS : ∀ e ∈ S, e ∈ X ++ (M1 ++ (ents bs L ++ M2))) (h1 : col.length = n1) (h2 : diff.length = n2) (h3 : L.length = n3) (hf3 : Fit L) (hn2 : n2 ≤ 140737488351232) (hc2 : n2 ≤ c2)
    (h81 : B8 col) (h82 : B8 diff) (h83 : B8L L) (hbs : bs.length = L.length) (hr : Rd w A1 col ∧ Off bs A1) (hs : Rd w A2 diff ∧ Off bs A2) (hd : RdV es w A3 (sds bs L)) (hA3 : Off bs A3) :
    Calls Try.prog 19 #[.pointer (some ⟨p, 0, none⟩), .slice A1 n1 c1, .slice A2 n2 c2, .slice A3 n3 c3, .agg #[.int .i64 f, .int .i64 t]] w fun e w' => e = .returned (.int .i64 (sprE col diff L f t)) ∧ St w0 w' [] (M1 ++ (ents bs (sprD col diff L f t) ++ M2)) := by
  have hE : ∀ e ∈ ents bs L, e ∈ X ++ (M1 ++ (ents bs L ++ M2)) := fun e he => by simp [he]
  by_cases h0 : sprE col diff L f t = 0
  · obtain ⟨_, g4, g5, _⟩ := spr_zero h0
    obtain ⟨f, rfl⟩ := Int.eq_ofNat_of_zero_le g4
    obtain ⟨t, rfl⟩ := Int.eq_ofNat_of_zero_le (show 0 ≤ t by omega)
    have hX : St w w (ents bs L) [] := by
      have : St w0 w [] ((X ++ M1) ++ (ents bs L ++ M2)) := by rw [List.append_assoc]; exact h
      exact this.subX
    rw [h0]
    unfold sprD
    rw [if_pos h0, show ((t : Int) - (f : Int)).toNat = t - f by omega, Int.toNat_natCast]
    refine (spread_ok SE (There.of h hS) (SE.nes h hS hbs hE) h1 h2 h3 hf3 hn2 hc2 h81 h82 h83 hbs hX hr.1 hr.2 hs.1 hs.2 hd hA3 h0).mono fun e w' ⟨he, hk⟩ => ⟨he, ?_⟩
    exact h.doneNs hk (by rw [ents_b hbs, ents_b (by rw [sprL_length]; exact hbs)])
  · unfold sprD
    rw [if_neg h0]
    exact (spread_bad SE (There.of h hS) h1 h2 h3 hf3 (rdL_of hbs hd (Off.nil _) (fun e he => (h.new e (hE e he)).2) (by simp)) hn2 h0).mono fun e w' ⟨he, hk⟩ => ⟨he, h.done0 hk⟩
end

end Go.Proofs.Ytdbfkjhdnbmpeaa.Sk

namespace Go.Proofs.Ytdbfkjhdnbmpeaa.Sk
set_option linter.unusedSimpArgs false
set_option linter.unusedVariables false
open Go Go.RowKit Go.Proofs.Ytdbfkjhdnbmpeaa Go.Proofs.Ytdbfkjhdnbmpeaa.Mm Go.Proofs.Ytdbfkjhdnbmpeaa.Gf Go.Proofs.Ytdbfkjhdnbmpeaa.Wr Go.Proofs.Ytdbfkjhdnbmpeaa.Nb Go.Proofs.Ytdbfkjhdnbmpeaa.St

/-- What Mul, MulAdd, Dot answer and make, refused or not. -/
def lenE (n m : Nat) : Int := if n = m then 0 else 6
def mulD (c : Nat) (D l : List Nat) : List Nat := if D.length = l.length then l.map (gm c) else D
def addD (c : Nat) (D l : List Nat) : List Nat := if D.length = l.length then xs D (l.map (gm c)) else D
def xorD (D l : List Nat) : List Nat := if D.length = l.length then xs D l else D
def dotE (row : List Nat) (srcs : List (List Nat)) (n : Nat) : Int := if DotOk row srcs n then 0 else 6
def dotD (row : List Nat) (srcs : List (List Nat)) (D : List Nat) : List Nat := if DotOk row srcs D.length then sumL row srcs 0 D.length else D
theorem mulD_length (c : Nat) (D l : List Nat) : (mulD c D l).length = D.length := by
  unfold mulD; split
  · rename_i h; rw [List.length_map, h]
  · rfl
theorem addD_length (c : Nat) (D l : List Nat) : (addD c D l).length = D.length := by
  unfold addD; split
  · rw [xs_length]
  · rfl
theorem xorD_length (D l : List Nat) : (xorD D l).length = D.length := by
  unfold xorD; split
  · rw [xs_length]
  · rfl
theorem dotD_length (row : List Nat) (srcs : List (List Nat)) (D : List Nat) : (dotD row srcs D).length = D.length := by
  unfold dotD; split
  · rw [sumL_length]
  · rfl
theorem addD_b8 {c : Nat} {D l : List Nat} (hc : c < 256) (hD : B8 D) (hl : B8 l) : B8 (addD c D l) := by
  unfold addD; split
  · rename_i h; exact xs_b8 hD (B8.map hl fun x _ => gm_lt x hc) (by rw [List.length_map]; exact h)
  · exact hD
theorem mulD_b8 {c : Nat} {D l : List Nat} (hc : c < 256) (hD : B8 D) : B8 (mulD c D l) := by
  unfold mulD; split
  · intro x hx
    obtain ⟨y, _, rfl⟩ := List.mem_map.1 hx
    exact gm_lt y hc
  · exact hD
theorem xorD_b8 {D l : List Nat} (hD : B8 D) (hl : B8 l) : B8 (xorD D l) := by
  unfold xorD; split
  · rename_i h; exact xs_b8 hD hl h
  · exact hD
theorem sumL_b8 {row : List Nat} {srcs : List (List Nat)} {f n : Nat} (h8 : B8 row) : B8 (sumL row srcs f n) := sumK_b8 h8 (Nat.le_refl _)
theorem dotD_b8 {row : List Nat} {srcs : List (List Nat)} {D : List Nat} (hD : B8 D) (h8 : B8 row) : B8 (dotD row srcs D) := by
  unfold dotD; split
  · exact sumL_b8 h8
  · exact hD
theorem B8L.set {L : List (List Nat)} (h : B8L L) (i : Nat) {l : List Nat} (hl : B8 l) : B8L (L.set i l) := fun x hx => (List.mem_or_eq_of_mem_set hx).elim (h x) (fun e => e ▸ hl)
theorem appR_b8 {rows srcs L : List (List Nat)} {f k : Nat} (h1 : B8L rows) (h3 : B8L L) : ∀ i, B8L (appR rows srcs L f k i)
  | 0 => h3
  | i + 1 => (appR_b8 h1 h3 i).set i (wr_b8 (h3.get i) (sumL_b8 (h1.get i)))
theorem appE_b8 {rows srcs L : List (List Nat)} {f t : Int} (h1 : B8L rows) (h3 : B8L L) : B8L (appE rows srcs L f t) := by
  unfold appE; split
  · exact appR_b8 h1 h3 _
  · exact h3
theorem spr1_b8 {c : Nat} {diff D : List Nat} {f k : Nat} (hc : c < 256) (hD : B8 D) : B8 (spr1 c diff D f k) := by
  refine wr_b8 hD fun x hx => ?_
  obtain ⟨u, _, rfl⟩ := List.mem_map.1 hx
  refine Nat.xor_lt_two_pow (n := 8) ?_ (gm_lt _ hc)
  by_cases hu : f + u < D.length
  · exact hD.get hu
  · simp [List.getD_eq_getElem?_getD, List.getElem?_eq_none (Nat.le_of_not_lt hu)]
theorem get_lt {l : List Nat} (h : B8 l) (i : Nat) : l.getD i 0 < 256 := by
  by_cases hu : i < l.length
  · exact h.get hu
  · simp [List.getD_eq_getElem?_getD, List.getElem?_eq_none (Nat.le_of_not_lt hu)]
theorem sprR_b8 {col diff : List Nat} {L : List (List Nat)} {f k : Nat} (h1 : B8 col) (h3 : B8L L) : ∀ i, B8L (sprR col diff L f k i)
  | 0 => h3
  | i + 1 => (sprR_b8 h1 h3 i).set i (spr1_b8 (get_lt h1 i) (h3.get i))
theorem sprD_b8 {col diff : List Nat} {L : List (List Nat)} {f t : Int} (h1 : B8 col) (h3 : B8L L) : B8L (sprD col diff L f t) := by
  unfold sprD; split
  · exact sprR_b8 h1 h3 _
  · exact h3
theorem Fit.len {L L' : List (List Nat)} (h : Fit L) (hl : L'.map (·.length) = L.map (·.length)) : Fit L' := by
  have e : L'.length = L.length := by have := congrArg List.length hl; simpa using this
  refine ⟨by rw [e]; exact h.1, fun l hm => ?_⟩
  have : l.length ∈ L'.map (·.length) := List.mem_map.2 ⟨l, hm, rfl⟩
  rw [hl] at this
  obtain ⟨l2, h2, e2⟩ := List.mem_map.1 this
  rw [← e2]; exact h.2 l2 h2

section
variable {p j : Nat} {S M M1 M2 : List Ent} {w0 w wA wB wC : World} {a n m : Nat} {D l : List Nat} {r1 r2 : Nat}
theorem mulC {c : Int} (SE : SetE p j S) (h : St w0 w [] (M1 ++ bt a D :: M2)) (hS : ∀ e ∈ S, e ∈ M1 ++ bt a D :: M2) (k1 : St w wA [] [bt r1 l]) (hc0 : 0 ≤ c) (hc : c < 256) (hD : D.length = n) (h8D : B8 D) (hl : l.length = m) (h8 : B8 l) (hn : n ≤ 140737488351232) :
    Calls Try.prog 26 #[.pointer (some ⟨p, 0, none⟩), .int .u8 c, .slice (some ⟨a, 0, none⟩) n n, .slice (some ⟨r1, 0, none⟩) m m] wA fun e w' => e = .returned (.int .i64 (lenE n m)) ∧ St w0 w' [] (M1 ++ bt a (mulD c.toNat D l) :: M2) := by
  have h1 := h.call k1
  unfold lenE mulD
  by_cases hnm : n = m
  · subst hnm
    rw [if_pos rfl, if_pos (by rw [hD, hl])]
    exact mulS (X := [bt r1 l]) SE h1 (fun e he => List.mem_append_right _ (hS e he)) hc0 hc hD h8D hl h8 (Nat.le_refl _) hn (St.rdT (X := [bt r1 l]) h1 (by simp) (fun b hb => ⟨bt a D, by simp, by simp at hb; exact hb.symm⟩))
  · rw [if_neg hnm, if_neg (by rw [hD, hl]; exact hnm)]
    exact (smul_lens SE (There.of h1 (fun e he => List.mem_append_right _ (hS e he))) hnm).mono fun e w' ⟨he, hw⟩ => ⟨he, by subst hw; exact h1.drop (List.sublist_append_right _ _)⟩
theorem addC {c : Int} (SE : SetE p j S) (h : St w0 w [] (M1 ++ bt a D :: M2)) (hS : ∀ e ∈ S, e ∈ M1 ++ bt a D :: M2) (k1 : St w wA [] [bt r1 l]) (hc0 : 0 ≤ c) (hc : c < 256) (hD : D.length = n) (h8D : B8 D) (hl : l.length = m) (h8 : B8 l) (hn : n ≤ 140737488351232) :
    Calls Try.prog 17 #[.pointer (some ⟨p, 0, none⟩), .int .u8 c, .slice (some ⟨a, 0, none⟩) n n, .slice (some ⟨r1, 0, none⟩) m m] wA fun e w' => e = .returned (.int .i64 (lenE n m)) ∧ St w0 w' [] (M1 ++ bt a (addD c.toNat D l) :: M2) := by
  have h1 := h.call k1
  unfold lenE addD
  by_cases hnm : n = m
  · subst hnm
    rw [if_pos rfl, if_pos (by rw [hD, hl])]
    exact addS (X := [bt r1 l]) SE h1 (fun e he => List.mem_append_right _ (hS e he)) hc0 hc hD h8D hl h8 (Nat.le_refl _) hn (St.rdT (X := [bt r1 l]) h1 (by simp) (fun b hb => ⟨bt a D, by simp, by simp at hb; exact hb.symm⟩))
  · rw [if_neg hnm, if_neg (by rw [hD, hl]; exact hnm)]
    exact (sadd_lens SE (There.of h1 (fun e he => List.mem_append_right _ (hS e he))) hnm).mono fun e w' ⟨he, hw⟩ => ⟨he, by subst hw; exact h1.drop (List.sublist_append_right _ _)⟩
theorem xorC (h : St w0 w [] (M1 ++ bt a D :: M2)) (k1 : St w wA [] [bt r1 l]) (hD : D.length = n) (h8D : B8 D) (hl : l.length = m) (h8 : B8 l) (hn : n ≤ 140737488351232) :
    Calls Try.prog 22 #[.slice (some ⟨a, 0, none⟩) n n, .slice (some ⟨r1, 0, none⟩) m m] wA fun e w' => e = .returned (.int .i64 (lenE n m)) ∧ St w0 w' [] (M1 ++ bt a (xorD D l) :: M2) := by
  have h1 := h.call k1
  unfold lenE xorD
  by_cases hnm : n = m
  · subst hnm
    rw [if_pos rfl, if_pos (by rw [hD, hl])]
    exact xorS (X := [bt r1 l]) h1 hD h8D hl h8 hn (St.rdT (X := [bt r1 l]) h1 (by simp) (fun b hb => ⟨bt a D, by simp, by simp at hb; exact hb.symm⟩))
  · rw [if_neg hnm, if_neg (by rw [hD, hl]; exact hnm)]
    exact (xor_lens _ _ _ _ _ _ _ hnm).mono fun e w' ⟨he, hw⟩ => ⟨he, by subst hw; exact h1.drop (List.sublist_append_right _ _)⟩
variable {A' A2 A3 : Option Addr} {c' c2 c3 k n1 n2 n3 : Nat} {row : List Nat} {srcs rows L : List (List Nat)} {bs bs1 bs2 bs3 : List Nat} {G G1 G2 G3 : List Ent}
theorem dotC (SE : SetE p j S) (h : St w0 w [] (M1 ++ bt a D :: M2)) (hS : ∀ e ∈ S, e ∈ M1 ++ bt a D :: M2) (k1 : St w wA [] [bt r1 row]) (k2 : St wA wB [] (G ++ ents bs srcs)) (hc : CopyL A' m c' bs srcs G) (hD : D.length = n) (h8D : B8 D) (hk : row.length = k) (hr8 : B8 row) (hf : Fit srcs) (hs8 : B8L srcs) (hn : n ≤ 140737488351232) :
    Calls Try.prog 18 #[.pointer (some ⟨p, 0, none⟩), .slice (some ⟨r1, 0, none⟩) k k, .slice A' m c', .slice (some ⟨a, 0, none⟩) n n] wB fun e w' => e = .returned (.int .i64 (dotE row srcs n)) ∧ St w0 w' [] (M1 ++ bt a (dotD row srcs D) :: M2) := by
  have h2 : St w0 wB [] (((G ++ ents bs srcs) ++ [bt r1 row]) ++ (M1 ++ bt a D :: M2)) := by rw [List.append_assoc]; exact (h.call k1).call k2
  have hx : ∀ b ∈ [a], ∃ e ∈ M1 ++ bt a D :: M2, e.b = b := fun b hb => ⟨bt a D, by simp, by simp at hb; exact hb.symm⟩
  have hs := hc.rdT h2 (fun e he => by simp [he]) (fun e he => by simp [he]) hx
  have hm := hc.2.1.symm
  unfold dotE dotD
  by_cases hok : DotOk row srcs n
  · rw [if_pos hok, if_pos (by rw [hD]; exact hok), hD]
    exact dotS SE h2 (fun e he => List.mem_append_right _ (hS e he)) hD h8D hk (h2.rdT (by simp) hx) hr8 hm hf hs hs8 hn hok
  · rw [if_neg hok, if_neg (by rw [hD]; exact hok)]
    exact dotB SE h2 (fun e he => List.mem_append_right _ (hS e he)) hk hm hf (hs.sub (by simp)) hn hok
theorem applyC {f t : Int} (SE : SetE p j S) (h : St w0 w [] (M1 ++ (ents bs L ++ M2))) (hS : ∀ e ∈ S, e ∈ M1 ++ (ents bs L ++ M2)) (hG : ∀ e ∈ G, e ∈ M1 ∨ e ∈ M2) (hd : CopyL A3 n3 c3 bs L G) (k1 : St w wA [] (G1 ++ ents bs1 rows)) (hc1 : CopyL A' n1 c' bs1 rows G1) (k2 : St wA wB [] (G2 ++ ents bs2 srcs)) (hc2 : CopyL A2 n2 c2 bs2 srcs G2)
    (hf1 : Fit rows) (hf2 : Fit srcs) (hf3 : Fit L) (h81 : B8L rows) (h82 : B8L srcs) (h83 : B8L L) :
    Calls Try.prog 14 #[.pointer (some ⟨p, 0, none⟩), .slice A' n1 c', .slice A2 n2 c2, .slice A3 n3 c3, .agg #[.int .i64 f, .int .i64 t]] wB fun e w' => e = .returned (.int .i64 (fitsE rows srcs L f t)) ∧ St w0 w' [] (M1 ++ (ents bs (appE rows srcs L f t) ++ M2)) := by
  have h2 : St w0 wB [] (((G2 ++ ents bs2 srcs) ++ (G1 ++ ents bs1 rows)) ++ (M1 ++ (ents bs L ++ M2))) := by rw [List.append_assoc]; exact (h.call k1).call k2
  have hx : ∀ b ∈ bs, ∃ e ∈ M1 ++ (ents bs L ++ M2), e.b = b := fun b hb => by
    obtain ⟨e, he, hb⟩ := ents_of hd.1 hb
    exact ⟨e, by simp [he], hb⟩
  have hGm : ∀ e ∈ G, e ∈ ((G2 ++ ents bs2 srcs) ++ (G1 ++ ents bs1 rows)) ++ (M1 ++ (ents bs L ++ M2)) := fun e he => by rcases hG e he with h | h <;> simp [h]
  refine applyS SE h2 (fun e he => List.mem_append_right _ (hS e he)) hc1.2.1.symm hc2.2.1.symm hd.2.1.symm hf1 hf2 hf3 h81 h82 h83 hd.1 (hc1.rdT h2 (fun e he => by simp [he]) (fun e he => by simp [he]) hx) (hc2.rdT h2 (fun e he => by simp [he]) (fun e he => by simp [he]) hx) (hd.rdV h2 hGm) (hd.off fun e he hb => ?_)
  obtain ⟨e', he', hb'⟩ := ents_of hd.1 hb
  rcases hG e he with hm | hm
  · have h3 : St w0 wB [] ((((G2 ++ ents bs2 srcs) ++ (G1 ++ ents bs1 rows)) ++ M1) ++ (ents bs L ++ M2)) := by rw [List.append_assoc]; exact h2
    exact h3.apart (e := e) (e' := e') (by simp [hm]) (by simp [he']) hb'.symm
  · have h3 : St w0 wB [] (((((G2 ++ ents bs2 srcs) ++ (G1 ++ ents bs1 rows)) ++ M1) ++ ents bs L) ++ M2) := by rw [List.append_assoc, List.append_assoc]; exact h2
    exact h3.apart (e := e') (e' := e) (by simp [he']) hm hb'
theorem agreesC {f t : Int} (SE : SetE p j S) (h : St w0 w [] M) (hS : ∀ e ∈ S, e ∈ M) (k1 : St w wA [] (G1 ++ ents bs1 rows)) (hc1 : CopyL A' n1 c' bs1 rows G1) (k2 : St wA wB [] (G2 ++ ents bs2 srcs)) (hc2 : CopyL A2 n2 c2 bs2 srcs G2) (hd : RdL wB [] A3 L) (h3 : L.length = n3)
    (hf1 : Fit rows) (hf2 : Fit srcs) (hf3 : Fit L) (h81 : B8L rows) (h82 : B8L srcs) (h83 : B8L L) :
    Calls Try.prog 15 #[.pointer (some ⟨p, 0, none⟩), .slice A' n1 c', .slice A2 n2 c2, .slice A3 n3 c3, .agg #[.int .i64 f, .int .i64 t]] wB fun e w' => e = .returned (.tuple #[.bool (agrE rows srcs L f t), .int .i64 (fitsE rows srcs L f t)]) ∧ St w0 w' [] M := by
  have h2 : St w0 wB [] (((G2 ++ ents bs2 srcs) ++ (G1 ++ ents bs1 rows)) ++ M) := by rw [List.append_assoc]; exact (h.call k1).call k2
  exact agreesS SE h2 (fun e he => List.mem_append_right _ (hS e he)) hc1.2.1.symm hc2.2.1.symm h3 hf1 hf2 hf3 h81 h82 h83 (hc1.rdLow h2 (fun e he => by simp [he]) (fun e he => by simp [he])) (hc2.rdLow h2 (fun e he => by simp [he]) (fun e he => by simp [he])) hd
theorem spreadC {f t : Int} {col diff : List Nat} (SE : SetE p j S) (h : St w0 w [] (M1 ++ (ents bs L ++ M2))) (hS : ∀ e ∈ S, e ∈ M1 ++ (ents bs L ++ M2)) (hG : ∀ e ∈ G, e ∈ M1 ∨ e ∈ M2) (hd : CopyL A3 n3 c3 bs L G) (k1 : St w wA [] [bt r1 col]) (k2 : St wA wB [] [bt r2 diff])
    (h1 : col.length = n1) (h2 : diff.length = n2) (hf3 : Fit L) (hn2 : n2 ≤ 140737488351232) (h81 : B8 col) (h82 : B8 diff) (h83 : B8L L) :
    Calls Try.prog 19 #[.pointer (some ⟨p, 0, none⟩), .slice (some ⟨r1, 0, none⟩) n1 n1, .slice (some ⟨r2, 0, none⟩) n2 n2, .slice A3 n3 c3, .agg #[.int .i64 f, .int .i64 t]] wB fun e w' => e = .returned (.int .i64 (sprE col diff L f t)) ∧ St w0 w' [] (M1 ++ (ents bs (sprD col diff L f t) ++ M2)) := by
  have hh : St w0 wB [] (([bt r2 diff] ++ [bt r1 col]) ++ (M1 ++ (ents bs L ++ M2))) := by rw [List.append_assoc]; exact (h.call k1).call k2
  have hx : ∀ b ∈ bs, ∃ e ∈ M1 ++ (ents bs L ++ M2), e.b = b := fun b hb => by
    obtain ⟨e, he, hb⟩ := ents_of hd.1 hb
    exact ⟨e, by simp [he], hb⟩
  have hGm : ∀ e ∈ G, e ∈ ([bt r2 diff] ++ [bt r1 col]) ++ (M1 ++ (ents bs L ++ M2)) := fun e he => by rcases hG e he with h | h <;> simp [h]
  refine spreadS SE hh (fun e he => List.mem_append_right _ (hS e he)) h1 h2 hd.2.1.symm hf3 hn2 (Nat.le_refl _) h81 h82 h83 hd.1 (hh.rdT (by simp) hx) (hh.rdT (by simp) hx) (hd.rdV hh hGm) (hd.off fun e he hb => ?_)
  obtain ⟨e', he', hb'⟩ := ents_of hd.1 hb
  rcases hG e he with hm | hm
  · have h3 : St w0 wB [] ((([bt r2 diff] ++ [bt r1 col]) ++ M1) ++ (ents bs L ++ M2)) := by rw [List.append_assoc]; exact hh
    exact h3.apart (e := e) (e' := e') (by simp [hm]) (by simp [he']) hb'.symm
  · have h3 : St w0 wB [] (((([bt r2 diff] ++ [bt r1 col]) ++ M1) ++ ents bs L) ++ M2) := by rw [List.append_assoc, List.append_assoc]; exact hh
    exact h3.apart (e := e') (e' := e) (by simp [he']) hm hb'
end

/-- The three sets at hand: one of them. -/
theorem pick3 {p0 p1 p2 : Nat} {T0 T1 T2 G : List Ent} (h0 : SetE p0 0 T0) (h1 : SetE p1 1 T1) (h2 : SetE p2 2 T2) {i : Nat} (hi : i < 3) : ∃ p S, ([some p0, some p1, some p2] : List (Option Nat))[i]? = some (some p) ∧ SetE p i S ∧ ∀ e ∈ S, e ∈ G ++ (T0 ++ (T1 ++ T2)) := by
  rcases i with _ | _ | _ | i
  · exact ⟨p0, T0, rfl, h0, fun e he => by simp [he]⟩
  · exact ⟨p1, T1, rfl, h1, fun e he => by simp [he]⟩
  · exact ⟨p2, T2, rfl, h2, fun e he => by simp [he]⟩
  · omega

/-- A slice of slices among the arguments, opened. -/
theorem open_lists9 {B : Nat} {w : World} {A : Option Addr} {n c : Nat} {L : List (List Nat)} (h : (Kk.kSlice (Kk.kSlice Kk.kByte 1) 24).ok B w [.slice A n c] L) : L.length = n ∧ RdL w [] A L ∧ Fit L ∧ B8L L := by
  obtain ⟨A', c', he, hlc, _, hr, hrow⟩ := h
  injection he with he _
  injection he with e1 e2 e3
  subst e1 e2 e3
  have key : ∀ i, i < L.length → ∃ d : Sd, (∀ b off, A = some ⟨b, off, none⟩ → w.cell? ⟨b, off + i, none⟩ = some (es d)) ∧ d.n = (L.getD i []).length ∧ d.n ≤ d.c ∧ Rd w d.A (L.getD i []) ∧ B8 (L.getD i []) ∧ (L.getD i []).length ≤ 140737488351232 := by
    intro i hi
    obtain ⟨b, off, hA, _, hc⟩ := hrow (by omega)
    obtain ⟨cs, hok, hcell⟩ := hc i hi
    have e : L.getD i [] = L[i] := by simp [hi]
    obtain ⟨A2, c2, ecs, h2⟩ := hok
    obtain ⟨g1, g2, g3, g4, g5, _⟩ := open_bytes (l := L[i]) (n := L[i].length) (c := c2) (A := A2) (w := w) ⟨A2, c2, rfl, h2⟩
    have := hcell 0 _ (by rw [ecs]; rfl)
    refine ⟨⟨A2, L[i].length, c2⟩, fun b' off' hA' => ?_, by rw [e], g3, by rw [e]; exact g4, by rw [e]; exact g5, by rw [e]; exact g2⟩
    rw [hA] at hA'
    injection hA' with hA'
    injection hA' with e1 e2 _
    subst e1 e2
    simpa [Kk.kSlice] using this
  refine ⟨rfl, ⟨List.ofFn fun i : Fin L.length => Classical.choose (key i i.2), fun h0 => ?_, Off.nil _, by simp, fun i d hd => ?_⟩, ⟨by unfold reachBytes at hr; omega, fun l hl => ?_⟩, fun l hl => ?_⟩
  · obtain ⟨b, off, hA, _, _⟩ := hrow (by simpa using h0)
    refine ⟨b, off, hA, fun i x hx => ?_⟩
    rw [List.getElem?_ofFn] at hx
    split at hx
    · rename_i hi
      injection hx with hx
      rw [← hx]
      exact (Classical.choose_spec (key i hi)).1 b off hA
    · cases hx
  · rw [List.getElem?_ofFn] at hd
    split at hd
    · rename_i hi
      injection hd with hd
      rw [← hd]
      have := Classical.choose_spec (key i hi)
      exact ⟨this.2.1, this.2.2.1, this.2.2.2.1, Off.nil _⟩
    · cases hd
  · obtain ⟨i, hi, rfl⟩ := List.getElem_of_mem hl
    have := (Classical.choose_spec (key i hi)).2.2.2.2.2
    have e : L.getD i [] = L[i] := by simp [hi]
    rw [e] at this; exact this
  · obtain ⟨i, hi, rfl⟩ := List.getElem_of_mem hl
    have := (Classical.choose_spec (key i hi)).2.2.2.2.1
    have e : L.getD i [] = L[i] := by simp [hi]
    rw [e] at this; exact this

end Go.Proofs.Ytdbfkjhdnbmpeaa.Sk
