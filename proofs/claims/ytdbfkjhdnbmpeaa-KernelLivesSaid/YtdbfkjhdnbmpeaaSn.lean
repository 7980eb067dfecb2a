/- Layer 7 (sliced): the tail. -/
import Derived.Test.YtdbfkjhdnbmpeaaSm
import Derived.Test.YtdbfkjhdnbmpeaaQt
namespace Go.Proofs.Ytdbfkjhdnbmpeaa.Sl
set_option linter.unusedSimpArgs false
set_option linter.unusedVariables false
open Go Go.RowKit Go.Proofs.Ytdbfkjhdnbmpeaa Go.Proofs.Ytdbfkjhdnbmpeaa.Mm Go.Proofs.Ytdbfkjhdnbmpeaa.Gf Go.Proofs.Ytdbfkjhdnbmpeaa.Wr Go.Proofs.Ytdbfkjhdnbmpeaa.St Go.Proofs.Ytdbfkjhdnbmpeaa.Wd

theorem W8_one (x : Nat) : W8 [x, 0, 0, 0, 0, 0, 0, 0] = x := by simp [W8]
/-- One byte as a word. -/
theorem word_one (c pb : Nat) (x : Int) (w : World) (hc : c < 256) (hp : Arr8 w pb (cols c)) (h0 : 0 ≤ x) (h1 : x < 256) :
    Calls Try.prog 81 #[.pointer (some ⟨pb, 0, none⟩), .int .u64 x] w fun e w' => e = .returned (.int .u64 ((gm c x.toNat : Nat) : Int)) ∧ ∃ n, w' = w.drewN n := by
  obtain ⟨x, rfl⟩ := Int.eq_ofNat_of_zero_le h0
  have h := word_q c pb [x, 0, 0, 0, 0, 0, 0, 0] w hc hp (by intro y hy; simp at hy; rcases hy with rfl | rfl <;> omega) rfl
  rw [W8_one] at h
  refine h.mono ?_
  rintro e w' ⟨rfl, hw⟩
  refine ⟨?_, hw⟩
  simp [W8, gm_zero_right]

set_option maxRecDepth 100000 in
set_option maxHeartbeats 4000000 in
theorem one_at (c keep i bD bK bP bS pb bd od n cd bs os m cs x y : Nat) (w : World) (hc : c < 256) (hx : x < 256) (hy : y < 256) (hk : keep < 256) (hp : Arr8 w pb (cols c))
    (cD : w.cell? ⟨bD, 0, none⟩ = some (.slice (some ⟨bd, od, none⟩) n cd)) (cK : w.cell? ⟨bK, 0, none⟩ = some (.int .u8 (keep : Int))) (cP : w.cell? ⟨bP, 0, none⟩ = some (.pointer (some ⟨pb, 0, none⟩))) (cS : w.cell? ⟨bS, 0, none⟩ = some (.slice (some ⟨bs, os, none⟩) m cs))
    (hin : i < n) (him : i < m) (hs : w.cell? ⟨bs, os + i, none⟩ = some (.int .u8 (x : Int))) (hd : w.cell? ⟨bd, od + i, none⟩ = some (.int .u8 (y : Int))) (hf : w.frozen? ⟨bd, od + i, none⟩ = false) :
    Calls Try.prog 85 #[.int .i64 (i : Int), .pointer (some ⟨bD, 0, none⟩), .pointer (some ⟨bK, 0, none⟩), .pointer (some ⟨bP, 0, none⟩), .pointer (some ⟨bS, 0, none⟩)] w fun e w' => e = .returned (.tuple #[]) ∧ ∃ k, w' = (w.drewN k).setCell ⟨bd, od + i, none⟩ (.int .u8 (((y &&& keep) ^^^ gm c x : Nat) : Int)) := by
  have HP := Lib.hid hp; clear hp
  have hg := gm_lt x hc
  have e1 : Go.bits .and .u8 (y : Int) (keep : Int) = ((y &&& keep : Nat) : Int) := Bt.and8 hy hk
  have e2 : Go.bits .xor .u8 ((y &&& keep : Nat) : Int) ((gm c x : Nat) : Int) = (((y &&& keep) ^^^ gm c x : Nat) : Int) := Bt.xor8 (Nat.lt_of_le_of_lt Nat.and_le_left hy) hg
  have w1 : IntKind.u64.wrap (x : Int) = (x : Int) := Bt.wrap_u64 _ (by omega) (by omega)
  have w2 : IntKind.u8.wrap ((gm c x : Nat) : Int) = ((gm c x : Nat) : Int) := Bt.wu8 hg
  have i1 : (i : Int) < (n : Int) := by omega
  have i2 : (i : Int) < (m : Int) := by omega
  have x0 : (0 : Int) ≤ (x : Int) := by omega
  have x1 : (x : Int) < 256 := by omega
  have g1 : ((gm c x : Nat) : Int) % 256 = ((gm c x : Nat) : Int) := by omega
  go_enter Try.func85, Try.ntmps85
  go_wp2_with fail
  refine Qt.quiet_tail 18 (by kernel_rfl) (by kernel_rfl) ?_
  simp only [List.take_succ_cons, List.take_zero, List.drop_succ_cons, List.drop_zero]
  repeat (quiet_step ((go_at_call 81; refine Calls.quiet_of (word_one c pb _ _ hc (HP.out.drewN _) (by first | omega | (rw [w1]; omega)) (by first | omega | (rw [w1]; omega))))))
  refine wpQuiet_nil ?_
  rintro _ ⟨nq, rfl⟩
  go_wp2_with fail
  exact bodyPost_end (results_none rfl _ _ _) rfl ⟨rfl, nq, rfl⟩

/-- What the tail and the words leave: a byte of the target, masked, and the product of the source's byte. -/
def outs (c keep od : Nat) (D l : List Nat) : List Nat := (List.range l.length).map fun i => (D.getD (od + i) 0 &&& keep) ^^^ gm c (l.getD i 0)
theorem outs_length (c keep od : Nat) (D l : List Nat) : (outs c keep od D l).length = l.length := by simp [outs]
theorem outs_get {c keep od i : Nat} {D l : List Nat} (h : i < l.length) : (outs c keep od D l).getD i 0 = (D.getD (od + i) 0 &&& keep) ^^^ gm c (l.getD i 0) := by simp [outs, h]
theorem wr_past : ∀ (vs D : List Nat) (o k v : Nat), k < o → (Wr.wr D o vs).set k v = Wr.wr (D.set k v) o vs
  | [], _, _, _, _, _ => rfl
  | x :: vs, D, o, k, v, h => by
    show (Wr.wr (D.set o x) (o + 1) vs).set k v = Wr.wr ((D.set k v).set o x) (o + 1) vs
    rw [wr_past vs _ _ _ _ (by omega), List.set_comm _ _ (by omega)]
/-- One place more, downwards. -/
theorem wr_down {vs D : List Nat} {o j : Nat} (h : j < vs.length) : (Wr.wr D (o + j + 1) (vs.drop (j + 1))).set (o + j) (vs.getD j 0) = Wr.wr D (o + j) (vs.drop j) := by
  rw [wr_past _ _ _ _ _ (by omega), List.drop_eq_getElem_cons h, Wr.wr]
  simp [h]
theorem wr_below {vs D : List Nat} {o j : Nat} (h : o + vs.length ≤ D.length) (hj : j < o) : (Wr.wr D o vs).getD j 0 = D.getD j 0 := by
  rw [List.getD_eq_getElem?_getD, wr_get _ _ _ _ h, if_neg (by omega), ← List.getD_eq_getElem?_getD]

/-- One step of the tail. -/
theorem one_dn (j : Int) (i c keep bD bK bP bS pb bd od n cd bs os m cs : Nat) (D l : List Nat) (w : World) (tD tK tP tS : TypeId) (hj : j = (i : Int)) (hc : c < 256) (hk : keep < 256) (hp : Arr8 w pb (cols c))
    (cD : Blk w bD tD #[.slice (some ⟨bd, od, none⟩) n cd]) (cK : Blk w bK tK #[.int .u8 (keep : Int)]) (cP : Blk w bP tP #[.pointer (some ⟨pb, 0, none⟩)]) (cS : Blk w bS tS #[.slice (some ⟨bs, os, none⟩) m cs])
    (hin : i < n) (him : i < m) (hil : i < l.length) (h8 : B8 l) (hD8 : B8 D) (hn : od + l.length ≤ D.length) (hd : Bytes w bd (Wr.wr D (od + i + 1) ((outs c keep od D l).drop (i + 1))))
    (hs : bs = bd ∧ os = od ∧ (∀ k, k < l.length → D.getD (od + k) 0 = l.getD k 0) ∨ w.cell? ⟨bs, os + i, none⟩ = some (.int .u8 ((l.getD i 0 : Nat) : Int))) :
    Calls Try.prog 85 #[.int .i64 j, .pointer (some ⟨bD, 0, none⟩), .pointer (some ⟨bK, 0, none⟩), .pointer (some ⟨bP, 0, none⟩), .pointer (some ⟨bS, 0, none⟩)] w fun e w' => e = .returned (.tuple #[]) ∧ St w w' [bt bd (Wr.wr D (od + i) ((outs c keep od D l).drop i))] [] := by
  subst hj
  have hx := h8.get hil
  have hy := hD8.get (i := od + i) (by omega)
  have ho := outs_length c keep od D l
  have hd1 := hd.cellRow (i := od + i) (by rw [wr_length]; omega)
  rw [wr_below (by rw [List.length_drop, ho]; omega) (by omega)] at hd1
  have hs' : w.cell? ⟨bs, os + i, none⟩ = some (.int .u8 ((l.getD i 0 : Nat) : Int)) := by
    rcases hs with ⟨rfl, rfl, h⟩ | h
    · rw [hd1, h i hil]
    · exact h
  refine (one_at c keep i bD bK bP bS pb bd od n cd bs os m cs (l.getD i 0) (D.getD (od + i) 0) w hc hx hy hk hp (cD.cell rfl) (cK.cell rfl) (cP.cell rfl) (cS.cell rfl) hin him hs' hd1 hd.free).mono ?_
  rintro e w' ⟨rfl, k, rfl⟩
  refine ⟨rfl, ?_⟩
  have h := ((St.start1 hd).drewN (n := k)).setRowW (W1 := []) (od + i) ((D.getD (od + i) 0 &&& keep) ^^^ gm c (l.getD i 0))
  rw [← outs_get hil, wr_down (by rw [ho]; exact hil)] at h
  rw [← outs_get hil]
  exact h

end Go.Proofs.Ytdbfkjhdnbmpeaa.Sl
