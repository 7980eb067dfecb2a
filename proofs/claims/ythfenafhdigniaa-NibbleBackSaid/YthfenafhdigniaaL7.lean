/- Lemmas for the laws of layer 6. -/
import Derived.Test.YthfenafhdigniaaL6
import Derived.Test.YthfenafhdigniaaG9
namespace Go.Proofs.Ythfenafhdigniaa.L6
open Go Go.RowKit Go.Proofs.Ythfenafhdigniaa Go.Proofs.Ythfenafhdigniaa.Mm Go.Proofs.Ythfenafhdigniaa.Gf Go.Proofs.Ythfenafhdigniaa.Wr Go.Proofs.Ythfenafhdigniaa.Nb

/-- As 'equal_calls', the world told as the others tell it. -/
theorem equal_below (A1 A2 : Option Addr) (m c1 c2 : Nat) (l : List Nat) (w : World) (hm : l.length = m) (hl : m ≤ 281474976710656) (h1 : Rd w A1 l) (h2 : Rd w A2 l) :
    Calls Try.prog 14 #[.slice A1 m c1, .slice A2 m c2] w fun e w' => e = .returned (.bool true) ∧ Below w.heap.size w w' :=
  (equal_calls A1 A2 m c1 c2 l w hm (by omega) h1 h2).mono fun e w' ⟨he, n, hw⟩ => ⟨he, by rw [hw]; exact (Below.refl _ _).drewN'⟩

/-- A slice argument of bytes, opened. -/
theorem open_bytes {B : Nat} {w : World} {A : Option Addr} {n c : Nat} {l : List Nat} (h : (Kk.kSlice Kk.kByte 1).ok B w [.slice A n c] l) : l.length = n ∧ n ≤ 140737488351232 ∧ n ≤ c ∧ Rd w A l ∧ B8 l ∧ (∀ a, A = some a → 0 < n → a.block < B) := by
  obtain ⟨A', c', he, hlc, _, hr, hrow⟩ := h
  injection he with he _
  injection he with e1 e2 e3
  subst e1 e2 e3
  refine ⟨rfl, by unfold reachBytes at hr; omega, hlc, fun h0 => ?_, fun x hx => ?_, fun a ha h0 => ?_⟩
  · obtain ⟨b, off, hA, _, hc⟩ := hrow h0
    refine ⟨b, off, hA, fun i hi => ?_⟩
    obtain ⟨cs, ⟨rfl, _⟩, hcell⟩ := hc i hi
    have := hcell 0 _ rfl
    have e : l.getD i 0 = l[i] := by simp [hi]
    rw [e]
    simpa [Kk.kByte] using this
  · obtain ⟨i, hi, rfl⟩ := List.getElem_of_mem hx
    obtain ⟨b, off, hA, _, hc⟩ := hrow (by omega)
    obtain ⟨cs, ⟨_, hok⟩, _⟩ := hc i hi
    exact hok
  · obtain ⟨b, off, hA, hb, _⟩ := hrow h0
    rw [hA] at ha
    injection ha with ha
    rw [← ha]; exact hb

/-- A list of n zeros is made: the step by itself. -/
theorem mk_run {P : Program} (t e : TypeId) (k kx ky : IntKind) (n c bytes : Nat) (W : World)
    (ht : P.underlying t = some (.slice e)) (hinfo : (P.info? e).map (fun i => (i.zero, i.size, i.bytes)) = some (some (.int k 0), 1, bytes)) (hn : n ≤ c) (hb : bytes * c ≤ 281474976710656) (hc : c ≤ 9223372036854775807) :
    Sem.run P (Instr.makeSlice t (.int kx (n : Int)) (.int ky (c : Int))) W = .ok (.slice (some ⟨W.heap.size, 0, none⟩) n c) (W.alloc (.cells (row k (List.replicate c 0)) e (0, 0))) := by
  cases hi : P.info? e with
  | none => rw [hi] at hinfo; cases hinfo
  | some i =>
    rw [hi] at hinfo
    simp only [Option.map_some, Option.some.injEq, Prod.mk.injEq] at hinfo
    obtain ⟨hz, hsz, hby⟩ := hinfo
    have hb' : (i.bytes : Int) * (c : Int) ≤ 281474976710656 := by
      rw [hby]
      have h : ((bytes * c : Nat) : Int) ≤ 281474976710656 := by omega
      rwa [Int.natCast_mul] at h
    have hr := run_make (P := P) W t e i (.int k 0) ht hi hz kx ky (n : Int) (c : Int) (by omega) (by omega) hb' (by omega)
    rw [hsz, Int.toNat_natCast, Int.toNat_natCast, Nat.mul_one, row_made] at hr
    exact hr

theorem below_step {w0 w w' : World} (h : Below w0.heap.size w0 w) (k : Below w.heap.size w w') : Below w0.heap.size w0 w' := Below.trans h (k.mono h.size)
theorem b8_set {T : List Nat} (h : B8 T) {v : Nat} (hv : v < 256) {i : Nat} : B8 (T.set i v) := fun _ hx => (List.mem_or_eq_of_mem_set hx).elim (h _) (fun e => e ▸ hv)

theorem shl_byte {x d : Nat} (hd : d < 256) (i : Nat) : ∃ v : Nat, v < 256 ∧ Go.bits .xor .u8 (Go.bits .xor .u8 ((x : Int) * 8 % 256) ((i : Int) % 256)) d = v := by
  have e1 : ((x : Int) * 8 % 256) = ((x * 8 % 256 : Nat) : Int) := by omega
  have e2 : ((i : Int) % 256) = ((i % 256 : Nat) : Int) := by omega
  have h1 : x * 8 % 256 < 256 := Nat.mod_lt _ (by decide)
  have h2 : i % 256 < 256 := Nat.mod_lt _ (by decide)
  refine ⟨_, xor_lt (xor_lt h1 h2) hd, ?_⟩
  rw [e1, e2, Bt.xor8 h1 h2, Bt.xor8 (xor_lt h1 h2) hd]

theorem map_xs (f : Nat → Nat) (a b : List Nat) (h : a.length = b.length) (hf : ∀ x y, f (x ^^^ y) = f x ^^^ f y) : xs (a.map f) (b.map f) = (xs a b).map f := by
  unfold xs
  rw [List.length_map, List.map_map]
  apply List.map_congr_left
  intro i hi
  have hi1 : i < a.length := by simpa using hi
  have hi2 : i < b.length := by omega
  simp [hi1, hi2, hf]
theorem xs_maps (f g : Nat → Nat) (a : List Nat) : xs (a.map f) (a.map g) = a.map fun x => f x ^^^ g x := by
  apply List.ext_getElem?
  intro i
  by_cases hi : i < a.length
  · simp [xs, hi]
  · simp [xs, hi]
theorem xs_b8 {a b : List Nat} (ha : B8 a) (hb : B8 b) (h : a.length = b.length) : B8 (xs a b) := by
  intro x hx
  obtain ⟨i, hi, rfl⟩ := List.mem_map.1 hx
  have hi1 : i < a.length := by simpa using hi
  exact xor_lt (ha.get hi1) (hb.get (by omega))
theorem xs_comm_self (a : List Nat) : xs a a = List.replicate a.length 0 := by
  apply List.ext_getElem?
  intro i
  by_cases hi : i < a.length
  · simp [xs, hi]
  · simp [xs, hi]
theorem map_b8 {c : Nat} {l : List Nat} (hc : c < 256) : B8 (l.map (gm c)) := by
  intro x hx
  obtain ⟨y, _, rfl⟩ := List.mem_map.1 hx
  exact gm_lt _ hc
theorem map_left {c d : Nat} (hc : c < 256) (hd : d < 256) {l : List Nat} : l.map (gm (c ^^^ d)) = xs (l.map (gm c)) (l.map (gm d)) := by
  rw [xs_maps]
  exact List.map_congr_left fun x _ => gm_left x hc hd
theorem map_assoc {c d : Nat} (hc : c < 256) (hd : d < 256) {l : List Nat} (h8 : B8 l) : l.map (gm (gm c d)) = (l.map (gm d)).map (gm c) := by
  rw [List.map_map]
  exact List.map_congr_left fun x hx => gm_assoc hc hd (h8 x hx)
theorem map_one {l : List Nat} (h : B8 l) : l.map (gm 1) = l := by
  have : l.map (gm 1) = l.map id := List.map_congr_left fun x hx => one_gm (h x hx)
  rw [this]; simp
theorem map_zero (l : List Nat) : l.map (gm 0) = List.replicate l.length 0 := by
  apply List.ext_getElem?
  intro i
  by_cases hi : i < l.length
  · simp [hi, gm_zero_left]
  · simp [hi]


theorem fill_skip {f : Nat → Nat} {n k : Nat} (h : f k = 0) : fill f n k = fill f n (k + 1) := by
  unfold fill
  apply List.map_congr_left
  intro j _
  by_cases h1 : j < k
  · rw [if_pos h1, if_pos (by omega)]
  · by_cases h2 : j = k
    · subst h2; rw [if_neg h1, if_pos (by omega), h]
    · rw [if_neg h1, if_neg (by omega)]

theorem fill_b8 {o : List Nat} {n k : Nat} (h : B8 o) : B8 (fill (fun i => o.getD i 0) n k) := by
  intro x hx
  obtain ⟨i, _, rfl⟩ := List.mem_map.1 hx
  dsimp only
  by_cases h1 : i < k
  · rw [if_pos h1]
    by_cases h2 : i < o.length
    · exact h.get h2
    · rw [List.getD_eq_getElem?_getD, List.getElem?_eq_none (by omega)]; decide
  · rw [if_neg h1]; decide

theorem add_xs {D l : List Nat} {c n : Nat} (hD : D.length = n) (hl : l.length = n) : Wr.wr D 0 ((List.range n).map fun i => D.getD (0 + i) 0 ^^^ gm c (l.getD i 0)) = xs D (l.map (gm c)) := by
  rw [wr_all _ _ (by simp [hD])]
  unfold xs
  rw [hD]
  apply List.map_congr_left
  intro i hi
  have hi' : i < l.length := by rw [hl]; simpa using hi
  simp [hi']

theorem xs_twice {D m : List Nat} (h : m.length = D.length) : xs (xs D m) m = D := by
  apply List.ext_getElem?
  intro i
  by_cases hi : i < D.length
  · have hi2 : i < m.length := by omega
    simp [xs, hi, hi2, Nat.xor_assoc]
  · simp [xs, hi]

theorem inv_nz (c : Nat) (w : World) (hc : c < 256) (h0 : c ≠ 0) : Calls Try.prog 25 #[.int .u8 c] w fun e w' => e = .returned (.tuple #[.int .u8 ((pw c 254 : Nat) : Int), .int .i64 0]) ∧ w = w' :=
  (G8.inv_calls c w hc).mono fun e w' ⟨he, hw⟩ => ⟨by rw [he]; unfold two iv; rw [if_neg h0], hw⟩

theorem inv_z (w : World) : Calls Try.prog 25 #[.int .u8 0] w fun e w' => e = .returned (.tuple #[.int .u8 0, .int .i64 20]) ∧ w = w' :=
  (G8.inv_calls 0 w (by decide)).mono fun e w' ⟨he, hw⟩ => ⟨by rw [he]; rfl, hw⟩

theorem map_back {c : Nat} (hc : c < 256) (h0 : c ≠ 0) {l : List Nat} (h8 : B8 l) : (l.map (gm c)).map (gm (pw c 254)) = l := by
  rw [List.map_map]
  have : l.map (gm (pw c 254) ∘ gm c) = l.map id := List.map_congr_left fun x hx => by
    show gm (pw c 254) (gm c x) = x
    rw [← gm_assoc (pw_lt hc 254) hc (h8 x hx), gm_comm (pw_lt hc 254) hc, inv_gm hc h0, one_gm (h8 x hx)]
  rw [this]; simp

end Go.Proofs.Ythfenafhdigniaa.L6
