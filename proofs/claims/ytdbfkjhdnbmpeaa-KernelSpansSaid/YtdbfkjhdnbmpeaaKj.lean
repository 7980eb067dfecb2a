/- Layer 9: the set's calls over lists that are new memory, as steps of a law: what becomes of the lists at hand (M), what was made for the call (X) forgotten. -/
import Derived.Test.YtdbfkjhdnbmpeaaKi
namespace Go.Proofs.Ytdbfkjhdnbmpeaa.St
set_option linter.unusedSimpArgs false
set_option linter.unusedVariables false
open Go Go.RowKit Go.Proofs.Ytdbfkjhdnbmpeaa Go.Proofs.Ytdbfkjhdnbmpeaa.Mm Go.Proofs.Ytdbfkjhdnbmpeaa.Wr

section
variable {w0 w w' : World} {W N N' M M1 M2 X Y : List Ent} {b : Nat} {t t' : TypeId} {c c' : Array Value}
theorem St.inj (h : St w0 w W N) {e e' : Ent} (he : e ∈ N) (he' : e' ∈ N) (hb : e.b = e'.b) : e = e' := by
  obtain ⟨i, hi, rfl⟩ := List.getElem_of_mem he
  obtain ⟨j, hj, rfl⟩ := List.getElem_of_mem he'
  by_cases hij : i = j
  · subst hij; rfl
  · exact absurd hb (h.ne i j (by simp [hi]) (by simp [hj]) hij)
/-- One of the lists at hand written; what was made for it forgotten. -/
theorem St.doneN (h : St w0 w W (X ++ (M1 ++ ⟨b, t, c⟩ :: M2))) (k : St w w' [⟨b, t', c'⟩] N') : St w0 w' W (M1 ++ ⟨b, t', c'⟩ :: M2) := by
  have h2 : St w0 w W ((X ++ M1) ++ ⟨b, t, c⟩ :: M2) := by rw [List.append_assoc]; exact h
  have := h2.callN k
  refine this.drop ?_
  rw [List.append_assoc]
  exact (List.sublist_append_right X _).trans (List.sublist_append_right N' _)
/-- .. several. -/
theorem St.doneNs (h : St w0 w W (X ++ (M1 ++ (Y ++ M2)))) {Y' : List Ent} (k : St w w' Y' N') (hY : Y'.map (·.b) = Y.map (·.b)) : St w0 w' W (M1 ++ (Y' ++ M2)) := by
  have h2 : St w0 w W ((X ++ M1) ++ (Y ++ M2)) := by rw [List.append_assoc]; exact h
  have := h2.callNs k hY
  refine this.drop ?_
  rw [List.append_assoc]
  exact (List.sublist_append_right X _).trans (List.sublist_append_right N' _)
/-- .. none. -/
theorem St.done0 (h : St w0 w W (X ++ M)) (k : St w w' [] N') : St w0 w' W M :=
  (h.call k).drop ((List.sublist_append_right X _).trans (List.sublist_append_right N' _))
/-- A list made for the call: it reads, and lies apart from the lists at hand. -/
theorem St.rdT {r : Nat} {l xs : List Nat} (h : St w0 w W (X ++ M)) (m : bt r l ∈ X) (hx : ∀ b ∈ xs, ∃ e ∈ M, e.b = b) : Rd w (some ⟨r, 0, none⟩) l ∧ Off xs (some ⟨r, 0, none⟩) :=
  ⟨h.rd (List.mem_append_left _ m), Off.some fun hr => by
    obtain ⟨e, he, hb⟩ := hx _ hr
    exact h.apart m he hb.symm⟩
theorem ents_of {bs : List Nat} {L : List (List Nat)} (h : bs.length = L.length) {b : Nat} (hb : b ∈ bs) : ∃ e ∈ ents bs L, e.b = b := by
  rw [← ents_b h] at hb
  obtain ⟨e, he, hb⟩ := List.mem_map.1 hb
  exact ⟨e, he, hb⟩
theorem CopyL.rdT {A : Option Addr} {n k : Nat} {bs xs : List Nat} {L : List (List Nat)} {G : List Ent} (h : CopyL A n k bs L G) (hs : St w0 w W (X ++ M)) (hG : ∀ e ∈ G, e ∈ X) (hE : ∀ e ∈ ents bs L, e ∈ X) (hx : ∀ b ∈ xs, ∃ e ∈ M, e.b = b) : RdL w xs A L := by
  refine h.rd hs (fun e he => List.mem_append_left _ (hG e he)) (fun e he => List.mem_append_left _ (hE e he)) (fun e he hb => ?_) (fun b hb hbx => ?_)
  · obtain ⟨e', he', hb'⟩ := hx _ hb
    exact hs.apart (hG e he) he' hb'.symm
  · obtain ⟨e, he, rfl⟩ := ents_of h.1 hb
    obtain ⟨e', he', hb'⟩ := hx _ hbx
    exact hs.apart (hE e he) he' hb'.symm
/-- .. and apart from all that comes. -/
theorem CopyL.rdLow {A : Option Addr} {n k : Nat} {bs : List Nat} {L : List (List Nat)} {G : List Ent} (h : CopyL A n k bs L G) (hs : St w0 w W N) (hG : ∀ e ∈ G, e ∈ N) (hE : ∀ e ∈ ents bs L, e ∈ N) : ∀ x, w.heap.size ≤ x → RdL w [x] A L := by
  intro x hx
  refine h.rd hs hG hE (fun e he hb => ?_) (fun b hb hbx => ?_)
  · have := (hs.new e (hG e he)).2.lt
    simp at hb; omega
  · obtain ⟨e, he, rfl⟩ := ents_of h.1 hb
    have := (hs.new e (hE e he)).2.lt
    simp at hbx; omega
theorem CopyL.rd0 {A : Option Addr} {n k : Nat} {bs : List Nat} {L : List (List Nat)} {G : List Ent} (h : CopyL A n k bs L G) (hs : St w0 w W N) (hG : ∀ e ∈ G, e ∈ N) (hE : ∀ e ∈ ents bs L, e ∈ N) : RdL w [] A L :=
  (h.rdLow hs hG hE _ (Nat.le_refl _)).sub (by simp)
/-- .. its lists written, it is still the same list of lists. -/
theorem CopyL.len {A : Option Addr} {n k : Nat} {bs : List Nat} {L L' : List (List Nat)} {G : List Ent} (h : CopyL A n k bs L G) (hl : L'.map (·.length) = L.map (·.length)) : CopyL A n k bs L' G := by
  have e : L'.length = L.length := by have := congrArg List.length hl; simpa using this
  refine ⟨by rw [e]; exact h.1, by rw [e]; exact h.2.1, ?_, h.2.2.2⟩
  rw [sds_len hl]; exact h.2.2.1
end

end Go.Proofs.Ytdbfkjhdnbmpeaa.St
namespace Go.Proofs.Ytdbfkjhdnbmpeaa.Sk
open Go Go.RowKit Go.Proofs.Ytdbfkjhdnbmpeaa Go.Proofs.Ytdbfkjhdnbmpeaa.Mm Go.Proofs.Ytdbfkjhdnbmpeaa.Gf Go.Proofs.Ytdbfkjhdnbmpeaa.Wr Go.Proofs.Ytdbfkjhdnbmpeaa.Nb Go.Proofs.Ytdbfkjhdnbmpeaa.St

theorem SetE.type {p j : Nat} {S : List Ent} (h : SetE p j S) : ∀ e ∈ S, e.t ≠ 5 := by
  rcases h with ⟨_, kb, rfl⟩ | ⟨_, x, rfl⟩ | ⟨_, x, rfl⟩ <;> intro e he <;> simp only [List.mem_cons, List.not_mem_nil, or_false] at he
  · rcases he with rfl | rfl
    · show 79 ≠ 5; decide
    · show 104 ≠ 5; decide
  · subst he; show 79 ≠ 5; decide
  · subst he; show 79 ≠ 5; decide
theorem SetE.ne {p j : Nat} {S N W : List Ent} {w0 w : World} (h : SetE p j S) (hs : St w0 w W N) (hS : ∀ e ∈ S, e ∈ N) {b : Nat} {l : List Nat} (hb : bt b l ∈ N) : ∀ e ∈ S, e.b ≠ b := fun e he hbe => by
  have := hs.inj (hS e he) hb hbe
  exact h.type e he (by rw [this])
theorem SetE.nes {p j : Nat} {S N W : List Ent} {w0 w : World} (h : SetE p j S) (hs : St w0 w W N) (hS : ∀ e ∈ S, e ∈ N) {bs : List Nat} {L : List (List Nat)} (hl : bs.length = L.length) (hb : ∀ e ∈ ents bs L, e ∈ N) : ∀ e ∈ S, e.b ∉ bs := fun e he hbe => by
  obtain ⟨i, hi, hbi⟩ := List.getElem_of_mem hbe
  have hm := hb _ (ents_mem hl (i := i) (by omega))
  have e1 : bs.getD i 0 = e.b := by rw [← hbi]; simp [hi]
  exact h.ne hs hS hm e he e1.symm

section
variable {p j : Nat} {S X M M1 M2 : List Ent} {w0 w : World} {a n cs : Nat} {D l : List Nat} {A : Option Addr}
theorem mulS {c : Int} (SE : SetE p j S) (h : St w0 w [] (X ++ (M1 ++ bt a D :: M2))) (hS : ∀ e ∈ S, e ∈ X ++ (M1 ++ bt a D :: M2)) (hc0 : 0 ≤ c) (hc : c < 256) (hD : D.length = n) (h8D : B8 D) (hl : l.length = n) (h8 : B8 l) (hcs : n ≤ cs) (hn : n ≤ 140737488351232) (hr : Rd w A l ∧ Off [a] A) :
    Calls Try.prog 26 #[.pointer (some ⟨p, 0, none⟩), .int .u8 c, .slice (some ⟨a, 0, none⟩) n n, .slice A n cs] w fun e w' => e = .returned (.int .i64 0) ∧ St w0 w' [] (M1 ++ bt a (l.map (gm c.toNat)) :: M2) := by
  refine (smul_at (D := D) SE (There.of h hS) (SE.ne h hS (b := a) (l := D) (by simp)) hc0 hc (h.blk (by simp)) (by omega) hl h8 h8D (Nat.le_refl _) hcs (by omega) (.inl hr)).mono fun e w' ⟨he, hk⟩ => ⟨he, ?_⟩
  rw [wr_all _ _ (by rw [List.length_map, hD, hl])] at hk
  exact h.doneN hk
theorem addS {c : Int} (SE : SetE p j S) (h : St w0 w [] (X ++ (M1 ++ bt a D :: M2))) (hS : ∀ e ∈ S, e ∈ X ++ (M1 ++ bt a D :: M2)) (hc0 : 0 ≤ c) (hc : c < 256) (hD : D.length = n) (h8D : B8 D) (hl : l.length = n) (h8 : B8 l) (hcs : n ≤ cs) (hn : n ≤ 140737488351232) (hr : Rd w A l ∧ Off [a] A) :
    Calls Try.prog 17 #[.pointer (some ⟨p, 0, none⟩), .int .u8 c, .slice (some ⟨a, 0, none⟩) n n, .slice A n cs] w fun e w' => e = .returned (.int .i64 0) ∧ St w0 w' [] (M1 ++ bt a (xs D (l.map (gm c.toNat))) :: M2) := by
  refine (sadd_at (D := D) SE (There.of h hS) (SE.ne h hS (b := a) (l := D) (by simp)) hc0 hc (h.blk (by simp)) (by omega) hl h8 h8D (Nat.le_refl _) hcs (by omega) (.inl hr)).mono fun e w' ⟨he, hk⟩ => ⟨he, ?_⟩
  rw [Tk.add_wr hD hl] at hk
  exact h.doneN hk
theorem xorS (h : St w0 w [] (X ++ (M1 ++ bt a D :: M2))) (hD : D.length = n) (h8D : B8 D) (hl : l.length = n) (h8 : B8 l) (hn : n ≤ 140737488351232) (hr : Rd w A l ∧ Off [a] A) :
    Calls Try.prog 22 #[.slice (some ⟨a, 0, none⟩) n n, .slice A n cs] w fun e w' => e = .returned (.int .i64 0) ∧ St w0 w' [] (M1 ++ bt a (xs D l) :: M2) := by
  refine (xor_at (D := D) (h.blk (by simp)) (by omega) hl h8 h8D (by omega) (.inl hr)).mono fun e w' ⟨he, hk⟩ => ⟨he, ?_⟩
  have e1 : ((List.range n).map fun i => D.getD (0 + i) 0 ^^^ l.getD i 0) = xs D l := by
    unfold xs; rw [hD]
    apply List.map_congr_left
    intro i _; rw [Nat.zero_add]
  rw [e1, wr_all _ _ (by rw [xs_length])] at hk
  exact h.doneN hk
theorem dotS {Ar As : Option Addr} {k kc m mc : Nat} {row : List Nat} {srcs : List (List Nat)} (SE : SetE p j S) (h : St w0 w [] (X ++ (M1 ++ bt a D :: M2))) (hS : ∀ e ∈ S, e ∈ X ++ (M1 ++ bt a D :: M2)) (hD : D.length = n) (h8D : B8 D) (hk : row.length = k) (hr : Rd w Ar row ∧ Off [a] Ar) (hr8 : B8 row) (hm : srcs.length = m) (hf : Fit srcs) (hs : RdL w [a] As srcs) (hs8 : B8L srcs) (hn : n ≤ 140737488351232) (hok : DotOk row srcs n) :
    Calls Try.prog 18 #[.pointer (some ⟨p, 0, none⟩), .slice Ar k kc, .slice As m mc, .slice (some ⟨a, 0, none⟩) n n] w fun e w' => e = .returned (.int .i64 0) ∧ St w0 w' [] (M1 ++ bt a (sumL row srcs 0 n) :: M2) := by
  refine (dot_ok (D := D) SE (There.of h hS) (SE.ne h hS (b := a) (l := D) (by simp)) (h.blk (by simp)) (by omega) h8D (Nat.le_refl _) hk hr.1 hr.2 hr8 hm hf hs hs8 hn hok).mono fun e w' ⟨he, hk⟩ => ⟨he, ?_⟩
  rw [wr_all _ _ (by rw [sumL_length, hD])] at hk
  exact h.doneN hk
theorem dotB {Ar As Ad : Option Addr} {k kc m mc cd : Nat} {row : List Nat} {srcs : List (List Nat)} (SE : SetE p j S) (h : St w0 w [] (X ++ M)) (hS : ∀ e ∈ S, e ∈ X ++ M) (hk : row.length = k) (hm : srcs.length = m) (hf : Fit srcs) (hs : RdL w [] As srcs) (hn : n ≤ 140737488351232) (hbad : ¬ DotOk row srcs n) :
    Calls Try.prog 18 #[.pointer (some ⟨p, 0, none⟩), .slice Ar k kc, .slice As m mc, .slice Ad n cd] w fun e w' => e = .returned (.int .i64 6) ∧ St w0 w' [] M :=
  (dot_bad SE (There.of h hS) hk hm hf hs hn hbad).mono fun e w' ⟨he, hw⟩ => ⟨he, by subst hw; exact h.drop (List.sublist_append_right _ _)⟩
variable {A1 A2 A3 : Option Addr} {n1 n2 n3 c1 c2 c3 : Nat} {rows srcs L : List (List Nat)} {bs : List Nat}
/-- What Apply makes of the lists, whether it is refused or not. -/
def appE (rows srcs L : List (List Nat)) (f t : Int) : List (List Nat) := if fitsE rows srcs L f t = 0 then appL rows srcs L f.toNat (t - f).toNat else L
theorem appL_len {rows srcs L : List (List Nat)} {f k : Nat} : (appL rows srcs L f k).map (·.length) = L.map (·.length) := appR_len _
theorem appE_len {rows srcs L : List (List Nat)} {f t : Int} : (appE rows srcs L f t).map (·.length) = L.map (·.length) := by
  unfold appE; split
  · exact appL_len
  · rfl
theorem applyS {f t : Int} (SE : SetE p j S) (h : St w0 w [] (X ++ (M1 ++ (ents bs L ++ M2)))) (hS : ∀ e ∈ S, e ∈ X ++ (M1 ++ (ents bs L ++ M2))) (h1 : rows.length = n1) (h2 : srcs.length = n2) (h3 : L.length = n3) (hf1 : Fit rows) (hf2 : Fit srcs) (hf3 : Fit L)
    (h81 : B8L rows) (h82 : B8L srcs) (h83 : B8L L) (hbs : bs.length = L.length) (hr : RdL w bs A1 rows) (hs : RdL w bs A2 srcs) (hd : RdV es w A3 (sds bs L)) (hA3 : Off bs A3) :
    Calls Try.prog 14 #[.pointer (some ⟨p, 0, none⟩), .slice A1 n1 c1, .slice A2 n2 c2, .slice A3 n3 c3, .agg #[.int .i64 f, .int .i64 t]] w fun e w' => e = .returned (.int .i64 (fitsE rows srcs L f t)) ∧ St w0 w' [] (M1 ++ (ents bs (appE rows srcs L f t) ++ M2)) := by
  have hE : ∀ e ∈ ents bs L, e ∈ X ++ (M1 ++ (ents bs L ++ M2)) := fun e he => by simp [he]
  by_cases h0 : fitsE rows srcs L f t = 0
  · obtain ⟨_, g4, g5, _⟩ := fits_zero h0
    obtain ⟨f, rfl⟩ := Int.eq_ofNat_of_zero_le g4
    obtain ⟨t, rfl⟩ := Int.eq_ofNat_of_zero_le (show 0 ≤ t by omega)
    have hX : St w w (ents bs L) [] := by
      have : St w0 w [] ((X ++ M1) ++ (ents bs L ++ M2)) := by rw [List.append_assoc]; exact h
      exact this.subX
    rw [h0]
    unfold appE
    rw [if_pos h0, show ((t : Int) - (f : Int)).toNat = t - f by omega, Int.toNat_natCast]
    refine (apply_ok SE (There.of h hS) (SE.nes h hS hbs hE) h1 h2 h3 hf1 hf2 hf3 h81 h82 h83 hbs hX hr hs hd hA3 h0).mono fun e w' ⟨he, hk⟩ => ⟨he, ?_⟩
    exact h.doneNs hk (by rw [ents_b hbs, ents_b (by rw [appL_length]; exact hbs)])
  · unfold appE
    rw [if_neg h0]
    refine (apply_bad SE (There.of h hS) h1 h2 h3 hf1 hf2 hf3 (hr.sub (by simp)) (hs.sub (by simp)) (rdL_of hbs hd (Off.nil _) (fun e he => (h.new e (hE e he)).2) (by simp)) h0).mono fun e w' ⟨he, hk⟩ => ⟨he, h.done0 hk⟩
/-- What Agrees answers. -/
def agrE (rows srcs L : List (List Nat)) (f t : Int) : Bool := if fitsE rows srcs L f t = 0 then decide (Agr rows srcs L f.toNat (t - f).toNat) else false
theorem agreesS {f t : Int} (SE : SetE p j S) (h : St w0 w [] (X ++ M)) (hS : ∀ e ∈ S, e ∈ X ++ M) (h1 : rows.length = n1) (h2 : srcs.length = n2) (h3 : L.length = n3) (hf1 : Fit rows) (hf2 : Fit srcs) (hf3 : Fit L)
    (h81 : B8L rows) (h82 : B8L srcs) (h83 : B8L L) (hr : ∀ x, w.heap.size ≤ x → RdL w [x] A1 rows) (hs : ∀ x, w.heap.size ≤ x → RdL w [x] A2 srcs) (hd : RdL w [] A3 L) :
    Calls Try.prog 15 #[.pointer (some ⟨p, 0, none⟩), .slice A1 n1 c1, .slice A2 n2 c2, .slice A3 n3 c3, .agg #[.int .i64 f, .int .i64 t]] w fun e w' => e = .returned (.tuple #[.bool (agrE rows srcs L f t), .int .i64 (fitsE rows srcs L f t)]) ∧ St w0 w' [] M := by
  by_cases h0 : fitsE rows srcs L f t = 0
  · obtain ⟨_, g4, g5, _⟩ := fits_zero h0
    obtain ⟨f, rfl⟩ := Int.eq_ofNat_of_zero_le g4
    obtain ⟨t, rfl⟩ := Int.eq_ofNat_of_zero_le (show 0 ≤ t by omega)
    unfold agrE
    rw [if_pos h0, h0, show ((t : Int) - (f : Int)).toNat = t - f by omega, Int.toNat_natCast]
    exact (agrees_ok SE (There.of h hS) h1 h2 h3 hf1 hf2 hf3 h81 h82 h83 hr hs hd h0).mono fun e w' ⟨he, hk⟩ => ⟨he, h.done0 hk⟩
  · unfold agrE
    rw [if_neg h0]
    exact (agrees_bad SE (There.of h hS) h1 h2 h3 hf1 hf2 hf3 ((hr _ (Nat.le_refl _)).sub (by simp)) ((hs _ (Nat.le_refl _)).sub (by simp)) hd h0).mono fun e w' ⟨he, hk⟩ => ⟨he, h.done0 hk⟩
/-- What Spread makes of the lists. -/
def sprD (col diff : List Nat) (L : List (List Nat)) (f t : Int) : List (List Nat) := if sprE col diff L f t = 0 then sprL col diff L f.toNat (t - f).toNat else L
theorem sprL_len {col diff : List Nat} {L : List (List Nat)} {f k : Nat} : (sprL col diff L f k).map (·.length) = L.map (·.length) := by
  apply List.ext_getElem?
  intro j
  have e := sprL_length col diff L f k
  rw [List.getElem?_map, List.getElem?_map]
  by_cases hj : j < L.length
  · have h1 : (sprL col diff L f k)[j]? = some ((sprL col diff L f k).getD j []) := by simp [show j < (sprL col diff L f k).length by omega]
    have h2 : L[j]? = some (L.getD j []) := by simp [hj]
    rw [h1, h2, sprL_get hj]
    simp only [Option.map_some, spr1_length]
  · rw [List.getElem?_eq_none (by omega), List.getElem?_eq_none (by omega)]
theorem sprD_len {col diff : List Nat} {L : List (List Nat)} {f t : Int} : (sprD col diff L f t).map (·.length) = L.map (·.length) := by
  unfold sprD; split
  · exact sprL_len
  · rfl
theorem spreadS {f t : Int} {col diff : List Nat} (SE : SetE p j S) (h : St w0 w [] (X ++ (M1 ++ (ents bs L ++ M2)))) (hS : ∀ e ∈ S, e ∈ X ++ (M1 ++ (ents bs L ++ M2))) (h1 : col.length = n1) (h2 : diff.length = n2) (h3 : L.length = n3) (hf3 : Fit L) (hn2 : n2 ≤ 140737488351232) (hc2 : n2 ≤ c2)
    (h81 : B8 col) (h82 : B8 diff) (h83 : B8L L) (hbs : bs.length = L.length) (hr : Rd w A1 col ∧ Off bs A1) (hs : Rd w A2 diff ∧ Off bs A2) (hd : RdV es w A3 (sds bs L)) (hA3 : Off bs A3) :
    Calls Try.prog 19 #[.pointer (some ⟨p, 0, none⟩), .slice A1 n1 c1, .slice A2 n2 c2, .slice A3 n3 c3, .agg #[.int .i64 f, .int .i64 t]] w fun e w' => e = .returned (.int .i64 (sprE col diff L f t)) ∧ St w0 w' [] (M1 ++ (ents bs (sprD col diff L f t) ++ M2)) := by
  have hE : ∀ e ∈ ents bs L, e ∈ X ++ (M1 ++ (ents bs L ++ M2)) := fun e he => by simp [he]
  by_cases h0 : sprE col diff L f t = 0
  · obtain ⟨_, g4, g5, _⟩ := spr_zero h0
    obtain ⟨f, rfl⟩ := Int.eq_ofNat_of_zero_le g4
    obtain ⟨t, rfl⟩ := Int.eq_ofNat_of_zero_le (show 0 ≤ t by omega)
    have hX : St w w (ents bs L) [] := by
      have : St w0 w [] ((X ++ M1) ++ (ents bs L ++ M2)) := by rw [List.append_assoc]; exact h
      exact this.subX
    rw [h0]
    unfold sprD
    rw [if_pos h0, show ((t : Int) - (f : Int)).toNat = t - f by omega, Int.toNat_natCast]
    refine (spread_ok SE (There.of h hS) (SE.nes h hS hbs hE) h1 h2 h3 hf3 hn2 hc2 h81 h82 h83 hbs hX hr.1 hr.2 hs.1 hs.2 hd hA3 h0).mono fun e w' ⟨he, hk⟩ => ⟨he, ?_⟩
    exact h.doneNs hk (by rw [ents_b hbs, ents_b (by rw [sprL_length]; exact hbs)])
  · unfold sprD
    rw [if_neg h0]
    exact (spread_bad SE (There.of h hS) h1 h2 h3 hf3 (rdL_of hbs hd (Off.nil _) (fun e he => (h.new e (hE e he)).2) (by simp)) hn2 h0).mono fun e w' ⟨he, hk⟩ => ⟨he, h.done0 hk⟩
end

end Go.Proofs.Ytdbfkjhdnbmpeaa.Sk
