/- The laws NibbleLinear and NibbleBack of layer 6: their walks. -/
import Derived.Test.YthfenafhdigniaaL6
namespace Go.Proofs.Ythfenafhdigniaa.L6
open Go Go.RowKit Go.Proofs.Ythfenafhdigniaa Go.Proofs.Ythfenafhdigniaa.Mm Go.Proofs.Ythfenafhdigniaa.Gf Go.Proofs.Ythfenafhdigniaa.Wr Go.Proofs.Ythfenafhdigniaa.Nb

/-- As 'equal_calls', the world told as the others tell it. -/
theorem equal_below (A1 A2 : Option Addr) (m c1 c2 : Nat) (l : List Nat) (w : World) (hm : l.length = m) (hl : m ≤ 281474976710656) (h1 : Rd w A1 l) (h2 : Rd w A2 l) :
    Calls Try.prog 14 #[.slice A1 m c1, .slice A2 m c2] w fun e w' => e = .returned (.bool true) ∧ Below w.heap.size w w' :=
  (equal_calls A1 A2 m c1 c2 l w hm (by omega) h1 h2).mono fun e w' ⟨he, n, hw⟩ => ⟨he, by rw [hw]; exact (Below.refl _ _).drewN'⟩

/-- A slice argument of bytes, opened. -/
theorem open_bytes {B : Nat} {w : World} {A : Option Addr} {n c : Nat} {l : List Nat} (h : (Kk.kSlice Kk.kByte 1).ok B w [.slice A n c] l) : l.length = n ∧ n ≤ 140737488351232 ∧ n ≤ c ∧ Rd w A l ∧ B8 l ∧ (∀ a, A = some a → 0 < n → a.block < B) := by
  obtain ⟨A', c', he, hlc, _, hr, hrow⟩ := h
  injection he with he _
  injection he with e1 e2 e3
  subst e1 e2 e3
  refine ⟨rfl, by unfold reachBytes at hr; omega, hlc, fun h0 => ?_, fun x hx => ?_, fun a ha h0 => ?_⟩
  · obtain ⟨b, off, hA, _, hc⟩ := hrow h0
    refine ⟨b, off, hA, fun i hi => ?_⟩
    obtain ⟨cs, ⟨rfl, _⟩, hcell⟩ := hc i hi
    have := hcell 0 _ rfl
    have e : l.getD i 0 = l[i] := by simp [hi]
    rw [e]
    simpa [Kk.kByte] using this
  · obtain ⟨i, hi, rfl⟩ := List.getElem_of_mem hx
    obtain ⟨b, off, hA, _, hc⟩ := hrow (by omega)
    obtain ⟨cs, ⟨_, hok⟩, _⟩ := hc i hi
    exact hok
  · obtain ⟨b, off, hA, hb, _⟩ := hrow h0
    rw [hA] at ha
    injection ha with ha
    rw [← ha]; exact hb

/-- A list of n zeros is made: the step by itself. -/
theorem mk_run {P : Program} (t e : TypeId) (k kx ky : IntKind) (n c bytes : Nat) (W : World)
    (ht : P.underlying t = some (.slice e)) (hinfo : (P.info? e).map (fun i => (i.zero, i.size, i.bytes)) = some (some (.int k 0), 1, bytes)) (hn : n ≤ c) (hb : bytes * c ≤ 281474976710656) (hc : c ≤ 9223372036854775807) :
    Sem.run P (Instr.makeSlice t (.int kx (n : Int)) (.int ky (c : Int))) W = .ok (.slice (some ⟨W.heap.size, 0, none⟩) n c) (W.alloc (.cells (row k (List.replicate c 0)) e (0, 0))) := by
  cases hi : P.info? e with
  | none => rw [hi] at hinfo; cases hinfo
  | some i =>
    rw [hi] at hinfo
    simp only [Option.map_some, Option.some.injEq, Prod.mk.injEq] at hinfo
    obtain ⟨hz, hsz, hby⟩ := hinfo
    have hb' : (i.bytes : Int) * (c : Int) ≤ 281474976710656 := by
      rw [hby]
      have h : ((bytes * c : Nat) : Int) ≤ 281474976710656 := by omega
      rwa [Int.natCast_mul] at h
    have hr := run_make (P := P) W t e i (.int k 0) ht hi hz kx ky (n : Int) (c : Int) (by omega) (by omega) hb' (by omega)
    rw [hsz, Int.toNat_natCast, Int.toNat_natCast, Nat.mul_one, row_made] at hr
    exact hr

theorem below_step {w0 w w' : World} (h : Below w0.heap.size w0 w) (k : Below w.heap.size w w') : Below w0.heap.size w0 w' := Below.trans h (k.mono h.size)
theorem b8_set {T : List Nat} (h : B8 T) {v : Nat} (hv : v < 256) {i : Nat} : B8 (T.set i v) := fun _ hx => (List.mem_or_eq_of_mem_set hx).elim (h _) (fun e => e ▸ hv)

theorem shl_byte {x d : Nat} (hd : d < 256) (i : Nat) : ∃ v : Nat, v < 256 ∧ Go.bits .xor .u8 (Go.bits .xor .u8 ((x : Int) * 8 % 256) ((i : Int) % 256)) d = v := by
  have e1 : ((x : Int) * 8 % 256) = ((x * 8 % 256 : Nat) : Int) := by omega
  have e2 : ((i : Int) % 256) = ((i % 256 : Nat) : Int) := by omega
  have h1 : x * 8 % 256 < 256 := Nat.mod_lt _ (by decide)
  have h2 : i % 256 < 256 := Nat.mod_lt _ (by decide)
  refine ⟨_, xor_lt (xor_lt h1 h2) hd, ?_⟩
  rw [e1, e2, Bt.xor8 h1 h2, Bt.xor8 (xor_lt h1 h2) hd]

theorem map_xs (f : Nat → Nat) (a b : List Nat) (h : a.length = b.length) (hf : ∀ x y, f (x ^^^ y) = f x ^^^ f y) : xs (a.map f) (b.map f) = (xs a b).map f := by
  unfold xs
  rw [List.length_map, List.map_map]
  apply List.map_congr_left
  intro i hi
  have hi1 : i < a.length := by simpa using hi
  have hi2 : i < b.length := by omega
  simp [hi1, hi2, hf]
theorem xs_maps (f g : Nat → Nat) (a : List Nat) : xs (a.map f) (a.map g) = a.map fun x => f x ^^^ g x := by
  apply List.ext_getElem?
  intro i
  by_cases hi : i < a.length
  · simp [xs, hi]
  · simp [xs, hi]
theorem xs_b8 {a b : List Nat} (ha : B8 a) (hb : B8 b) (h : a.length = b.length) : B8 (xs a b) := by
  intro x hx
  obtain ⟨i, hi, rfl⟩ := List.mem_map.1 hx
  have hi1 : i < a.length := by simpa using hi
  exact xor_lt (ha.get hi1) (hb.get (by omega))
theorem xs_comm_self (a : List Nat) : xs a a = List.replicate a.length 0 := by
  apply List.ext_getElem?
  intro i
  by_cases hi : i < a.length
  · simp [xs, hi]
  · simp [xs, hi]
theorem map_b8 {c : Nat} {l : List Nat} (hc : c < 256) : B8 (l.map (gm c)) := by
  intro x hx
  obtain ⟨y, _, rfl⟩ := List.mem_map.1 hx
  exact gm_lt _ hc
theorem map_left {c d : Nat} (hc : c < 256) (hd : d < 256) {l : List Nat} : l.map (gm (c ^^^ d)) = xs (l.map (gm c)) (l.map (gm d)) := by
  rw [xs_maps]
  exact List.map_congr_left fun x _ => gm_left x hc hd
theorem map_assoc {c d : Nat} (hc : c < 256) (hd : d < 256) {l : List Nat} (h8 : B8 l) : l.map (gm (gm c d)) = (l.map (gm d)).map (gm c) := by
  rw [List.map_map]
  exact List.map_congr_left fun x hx => gm_assoc hc hd (h8 x hx)
theorem map_one {l : List Nat} (h : B8 l) : l.map (gm 1) = l := by
  have : l.map (gm 1) = l.map id := List.map_congr_left fun x hx => one_gm (h x hx)
  rw [this]; simp
theorem map_zero (l : List Nat) : l.map (gm 0) = List.replicate l.length 0 := by
  apply List.ext_getElem?
  intro i
  by_cases hi : i < l.length
  · simp [hi, gm_zero_left]
  · simp [hi]

set_option maxRecDepth 100000 in
set_option maxHeartbeats 4000000 in
theorem linear_walk (c d : Nat) (A : Option Addr) (n cp : Nat) (l : List Nat) (w : World) (hc : c < 256) (hd : d < 256) (h : (Kk.kSlice Kk.kByte 1).ok w.heap.size w [.slice A n cp] l) :
    Calls Try.prog 3 #[.int .u8 c, .int .u8 d, .slice A n cp] w fun e w' => e = .returned (.bool true) ∧ Below w.heap.size w w' := by
  obtain ⟨hn, hn2, _, hr, h8, _⟩ := open_bytes h
  clear h
  have hn3 : n ≤ 281474976710656 := by omega
  have HN := Lib.hid hn; have HR := Lib.hid hr; have H8 := Lib.hid h8
  clear hn hr h8
  go_enter Try.func3, Try.ntmps3
  go_wp2_with fail
  refine (new_calls _).mono ?_
  rintro e w1 ⟨rfl, hb⟩
  have z_1 : w.heap.size ≤ w1.heap.size := hb.size
  have B_1 := Lib.hid hb
  clear hb
  go_wp2_with fail
  refine (fixed_calls _).mono ?_
  rintro e w2 ⟨rfl, hb⟩
  have z_2 : w1.heap.size ≤ w2.heap.size := hb.size
  have B_2 := Lib.hid (Below.trans B_1.out (hb.mono B_1.out.size))
  clear B_1
  clear hb
  go_wp2_with fail
  refine (copied_calls A n cp l _ HN.out hn3 (Rd.below HR.out B_2.out)).mono ?_
  rintro e w3 ⟨rfl, hm, hb⟩
  have z_3 : w2.heap.size ≤ w3.heap.size := hb.size
  have B_3 := Lib.hid (Below.trans B_2.out (hb.mono B_2.out.size))
  clear B_2
  have y_t := hm.lt
  have F_t_3 := Lib.hid hm
  clear hm
  clear hb
  go_wp2_with fail
  go_loopw [17] (fun vi wr => ∃ (i : Nat) (T : List Nat), i ≤ n ∧ vi = .int .i64 i ∧ T.length = n ∧ B8 T ∧ Bytes wr w2.heap.size T ∧ Below w.heap.size w wr) (fun vi _ => n - (intOf vi).toNat)
  case atStart => exact ⟨0, l, by omega, rfl, HN.out, H8.out, F_t_3.out, B_3.out⟩
  case round =>
    clear F_t_3 B_3 z_3 y_t
    obtain ⟨i, T, hi, rfl, hT, hT8, hr, hb⟩ := hrel
    by_cases hlt : i < n
    · have m1 := hr.cellRow (i := i) (by rw [hT]; exact hlt)
      have f1 := hr.free (i := i)
      have hx := hT8.get (show i < T.length by rw [hT]; exact hlt)
      have HR := Lib.hid hr; have HB := Lib.hid hb; have HT := Lib.hid hT; have HT8 := Lib.hid hT8
      clear hr hb hT hT8
      generalize T.getD i 0 = x at *
      obtain ⟨v, hv, ev⟩ := shl_byte (x := x) hd i
      have EV := Lib.hid ev
      clear ev
      go_wp2_with fail
      go_roundw
      case rel =>
        rw [EV.out]
        exact ⟨i + 1, T.set i v, by omega, by go_num, by rw [List.length_set]; exact HT.out, b8_set HT8.out hv, HR.out.setRow i v, HB.out.setCell (Nat.le_trans z_1 z_2) _⟩
      case measure => simp [intOf]; omega
    · have F_t_3 := Lib.hid hr; have B_3 := Lib.hid hb; have y_t := hr.lt; have HT := Lib.hid hT; have HT8 := Lib.hid hT8
      have HLT : Hid (l.length = T.length) := Lib.hid (by rw [HN.out, HT.out])
      have x1 : Go.bits .xor .u8 (c : Int) (d : Int) = ((c ^^^ d : Nat) : Int) := Bt.xor8 hc hd
      have hcd : c ^^^ d < 256 := xor_lt hc hd
      have hcm : gm c d < 256 := gm_lt _ hc
      clear hr hb hT hT8

      go_wp2_with fail
      refine (sum_calls _ _ n _ _ (l) (T) _ (HN.out) (HT.out) hn3 (Rd.below HR.out B_3.out) (Rd.of_blk F_t_3.out) (H8.out) (HT8.out)).mono ?_
      rintro e w4 ⟨rfl, hm, hb⟩
      have z_4 : wr.heap.size ≤ w4.heap.size := hb.size
      have F_t_4 := Lib.hid (Blk.below F_t_3.out hb F_t_3.out.lt)
      clear F_t_3
      have B_4 := Lib.hid (Below.trans B_3.out (hb.mono B_3.out.size))
      clear B_3
      have y_u := hm.lt
      have F_u_4 := Lib.hid hm
      clear hm
      clear hb
      go_wp2_with fail
      refine (times_calls _ c _ n _ (xs l T) _ (by omega) (by omega) (by rw [xs_length]; exact HN.out) hn3 (Rd.of_blk F_u_4.out) (xs_b8 H8.out HT8.out HLT.out)).mono ?_
      rintro e w5 ⟨rfl, hm, hb⟩
      try rw [Int.toNat_natCast] at hm
      have z_5 : w4.heap.size ≤ w5.heap.size := hb.size
      have F_t_5 := Lib.hid (Blk.below F_t_4.out hb F_t_4.out.lt)
      clear F_t_4
      have F_u_5 := Lib.hid (Blk.below F_u_4.out hb F_u_4.out.lt)
      clear F_u_4
      have B_5 := Lib.hid (Below.trans B_4.out (hb.mono B_4.out.size))
      clear B_4
      have y_a := hm.lt
      have F_a_5 := Lib.hid hm
      clear hm
      clear hb
      go_wp2_with fail
      refine (times_calls _ c _ n _ (l) _ (by omega) (by omega) (HN.out) hn3 (Rd.below HR.out B_5.out) (H8.out)).mono ?_
      rintro e w6 ⟨rfl, hm, hb⟩
      try rw [Int.toNat_natCast] at hm
      have z_6 : w5.heap.size ≤ w6.heap.size := hb.size
      have F_t_6 := Lib.hid (Blk.below F_t_5.out hb F_t_5.out.lt)
      clear F_t_5
      have F_u_6 := Lib.hid (Blk.below F_u_5.out hb F_u_5.out.lt)
      clear F_u_5
      have F_a_6 := Lib.hid (Blk.below F_a_5.out hb F_a_5.out.lt)
      clear F_a_5
      have B_6 := Lib.hid (Below.trans B_5.out (hb.mono B_5.out.size))
      clear B_5
      have y_b := hm.lt
      have F_b_6 := Lib.hid hm
      clear hm
      clear hb
      go_wp2_with fail
      refine (times_calls _ c _ n _ (T) _ (by omega) (by omega) (HT.out) hn3 (Rd.of_blk F_t_6.out) (HT8.out)).mono ?_
      rintro e w7 ⟨rfl, hm, hb⟩
      try rw [Int.toNat_natCast] at hm
      have z_7 : w6.heap.size ≤ w7.heap.size := hb.size
      have F_t_7 := Lib.hid (Blk.below F_t_6.out hb F_t_6.out.lt)
      clear F_t_6
      have F_u_7 := Lib.hid (Blk.below F_u_6.out hb F_u_6.out.lt)
      clear F_u_6
      have F_a_7 := Lib.hid (Blk.below F_a_6.out hb F_a_6.out.lt)
      clear F_a_6
      have F_b_7 := Lib.hid (Blk.below F_b_6.out hb F_b_6.out.lt)
      clear F_b_6
      have B_7 := Lib.hid (Below.trans B_6.out (hb.mono B_6.out.size))
      clear B_6
      have y_d := hm.lt
      have F_d_7 := Lib.hid hm
      clear hm
      clear hb
      go_wp2_with fail
      refine (sum_calls _ _ n _ _ (l.map (gm c)) (T.map (gm c)) _ (by rw [List.length_map]; exact HN.out) (by rw [List.length_map]; exact HT.out) hn3 (Rd.of_blk F_b_7.out) (Rd.of_blk F_d_7.out) (map_b8 hc) (map_b8 hc)).mono ?_
      rintro e w8 ⟨rfl, hm, hb⟩
      have z_8 : w7.heap.size ≤ w8.heap.size := hb.size
      have F_t_8 := Lib.hid (Blk.below F_t_7.out hb F_t_7.out.lt)
      clear F_t_7
      have F_u_8 := Lib.hid (Blk.below F_u_7.out hb F_u_7.out.lt)
      clear F_u_7
      have F_a_8 := Lib.hid (Blk.below F_a_7.out hb F_a_7.out.lt)
      clear F_a_7
      have F_b_8 := Lib.hid (Blk.below F_b_7.out hb F_b_7.out.lt)
      clear F_b_7
      have F_d_8 := Lib.hid (Blk.below F_d_7.out hb F_d_7.out.lt)
      clear F_d_7
      have B_8 := Lib.hid (Below.trans B_7.out (hb.mono B_7.out.size))
      clear B_7
      have y_e := hm.lt
      have F_e_8 := Lib.hid hm
      clear hm
      clear hb
      go_wp2_with fail
      refine (equal_below _ _ n _ _ ((xs l T).map (gm c)) _ (by rw [List.length_map, xs_length]; exact HN.out) hn3 (Rd.of_blk F_a_8.out) (by rw [← map_xs (gm c) l T HLT.out (gm_right c)]; exact (Rd.of_blk F_e_8.out))).mono ?_
      rintro e w9 ⟨rfl, hb⟩
      have z_9 : w8.heap.size ≤ w9.heap.size := hb.size
      have F_t_9 := Lib.hid (Blk.below F_t_8.out hb F_t_8.out.lt)
      clear F_t_8
      have F_u_9 := Lib.hid (Blk.below F_u_8.out hb F_u_8.out.lt)
      clear F_u_8
      have F_a_9 := Lib.hid (Blk.below F_a_8.out hb F_a_8.out.lt)
      clear F_a_8
      have F_b_9 := Lib.hid (Blk.below F_b_8.out hb F_b_8.out.lt)
      clear F_b_8
      have F_d_9 := Lib.hid (Blk.below F_d_8.out hb F_d_8.out.lt)
      clear F_d_8
      have F_e_9 := Lib.hid (Blk.below F_e_8.out hb F_e_8.out.lt)
      clear F_e_8
      have B_9 := Lib.hid (Below.trans B_8.out (hb.mono B_8.out.size))
      clear B_8
      clear hb
      go_wp2_with fail
      refine (times_calls _ _ _ n _ (l) _ (by omega) (by omega) (HN.out) hn3 (Rd.below HR.out B_9.out) (H8.out)).mono ?_
      rintro e w10 ⟨rfl, hm, hb⟩
      try rw [Int.toNat_natCast] at hm
      have z_10 : w9.heap.size ≤ w10.heap.size := hb.size
      have B_10 := Lib.hid (Below.trans B_9.out (hb.mono B_9.out.size))
      clear B_9
      have y_a := hm.lt
      have F_a_10 := Lib.hid hm
      clear hm
      clear hb
      go_wp2_with fail
      refine (times_calls _ c _ n _ (l) _ (by omega) (by omega) (HN.out) hn3 (Rd.below HR.out B_10.out) (H8.out)).mono ?_
      rintro e w11 ⟨rfl, hm, hb⟩
      try rw [Int.toNat_natCast] at hm
      have z_11 : w10.heap.size ≤ w11.heap.size := hb.size
      have F_a_11 := Lib.hid (Blk.below F_a_10.out hb F_a_10.out.lt)
      clear F_a_10
      have B_11 := Lib.hid (Below.trans B_10.out (hb.mono B_10.out.size))
      clear B_10
      have y_b := hm.lt
      have F_b_11 := Lib.hid hm
      clear hm
      clear hb
      go_wp2_with fail
      refine (times_calls _ d _ n _ (l) _ (by omega) (by omega) (HN.out) hn3 (Rd.below HR.out B_11.out) (H8.out)).mono ?_
      rintro e w12 ⟨rfl, hm, hb⟩
      try rw [Int.toNat_natCast] at hm
      have z_12 : w11.heap.size ≤ w12.heap.size := hb.size
      have F_a_12 := Lib.hid (Blk.below F_a_11.out hb F_a_11.out.lt)
      clear F_a_11
      have F_b_12 := Lib.hid (Blk.below F_b_11.out hb F_b_11.out.lt)
      clear F_b_11
      have B_12 := Lib.hid (Below.trans B_11.out (hb.mono B_11.out.size))
      clear B_11
      have y_d := hm.lt
      have F_d_12 := Lib.hid hm
      clear hm
      clear hb
      go_wp2_with fail
      refine (sum_calls _ _ n _ _ (l.map (gm c)) (l.map (gm d)) _ (by rw [List.length_map]; exact HN.out) (by rw [List.length_map]; exact HN.out) hn3 (Rd.of_blk F_b_12.out) (Rd.of_blk F_d_12.out) (map_b8 hc) (map_b8 hd)).mono ?_
      rintro e w13 ⟨rfl, hm, hb⟩
      have z_13 : w12.heap.size ≤ w13.heap.size := hb.size
      have F_a_13 := Lib.hid (Blk.below F_a_12.out hb F_a_12.out.lt)
      clear F_a_12
      have F_b_13 := Lib.hid (Blk.below F_b_12.out hb F_b_12.out.lt)
      clear F_b_12
      have F_d_13 := Lib.hid (Blk.below F_d_12.out hb F_d_12.out.lt)
      clear F_d_12
      have B_13 := Lib.hid (Below.trans B_12.out (hb.mono B_12.out.size))
      clear B_12
      have y_e := hm.lt
      have F_e_13 := Lib.hid hm
      clear hm
      clear hb
      go_wp2_with fail
      refine (equal_below _ _ n _ _ (l.map (gm (c ^^^ d))) _ (by rw [List.length_map]; exact HN.out) hn3 (Rd.of_blk F_a_13.out) (by rw [map_left hc hd]; exact (Rd.of_blk F_e_13.out))).mono ?_
      rintro e w14 ⟨rfl, hb⟩
      have z_14 : w13.heap.size ≤ w14.heap.size := hb.size
      have F_a_14 := Lib.hid (Blk.below F_a_13.out hb F_a_13.out.lt)
      clear F_a_13
      have F_b_14 := Lib.hid (Blk.below F_b_13.out hb F_b_13.out.lt)
      clear F_b_13
      have F_d_14 := Lib.hid (Blk.below F_d_13.out hb F_d_13.out.lt)
      clear F_d_13
      have F_e_14 := Lib.hid (Blk.below F_e_13.out hb F_e_13.out.lt)
      clear F_e_13
      have B_14 := Lib.hid (Below.trans B_13.out (hb.mono B_13.out.size))
      clear B_13
      clear hb
      go_wp2_with fail
      refine (G8.mul_calls c d _ hc hd).mono ?_
      rintro e _ ⟨rfl, rfl⟩
      go_wp2_with fail
      refine (times_calls _ _ _ n _ (l) _ (by omega) (by omega) (HN.out) hn3 (Rd.below HR.out B_14.out) (H8.out)).mono ?_
      rintro e w15 ⟨rfl, hm, hb⟩
      try rw [Int.toNat_natCast] at hm
      have z_15 : w14.heap.size ≤ w15.heap.size := hb.size
      have B_15 := Lib.hid (Below.trans B_14.out (hb.mono B_14.out.size))
      clear B_14
      have y_a := hm.lt
      have F_a_15 := Lib.hid hm
      clear hm
      clear hb
      go_wp2_with fail
      refine (times_calls _ d _ n _ (l) _ (by omega) (by omega) (HN.out) hn3 (Rd.below HR.out B_15.out) (H8.out)).mono ?_
      rintro e w16 ⟨rfl, hm, hb⟩
      try rw [Int.toNat_natCast] at hm
      have z_16 : w15.heap.size ≤ w16.heap.size := hb.size
      have F_a_16 := Lib.hid (Blk.below F_a_15.out hb F_a_15.out.lt)
      clear F_a_15
      have B_16 := Lib.hid (Below.trans B_15.out (hb.mono B_15.out.size))
      clear B_15
      have y_b := hm.lt
      have F_b_16 := Lib.hid hm
      clear hm
      clear hb
      go_wp2_with fail
      refine (times_calls _ c _ n _ (l.map (gm d)) _ (by omega) (by omega) (by rw [List.length_map]; exact HN.out) hn3 (Rd.of_blk F_b_16.out) (map_b8 hd)).mono ?_
      rintro e w17 ⟨rfl, hm, hb⟩
      try rw [Int.toNat_natCast] at hm
      have z_17 : w16.heap.size ≤ w17.heap.size := hb.size
      have F_a_17 := Lib.hid (Blk.below F_a_16.out hb F_a_16.out.lt)
      clear F_a_16
      have F_b_17 := Lib.hid (Blk.below F_b_16.out hb F_b_16.out.lt)
      clear F_b_16
      have B_17 := Lib.hid (Below.trans B_16.out (hb.mono B_16.out.size))
      clear B_16
      have y_d := hm.lt
      have F_d_17 := Lib.hid hm
      clear hm
      clear hb
      go_wp2_with fail
      refine (equal_below _ _ n _ _ (l.map (gm (gm c d))) _ (by rw [List.length_map]; exact HN.out) hn3 (Rd.of_blk F_a_17.out) (by rw [map_assoc hc hd H8.out]; exact (Rd.of_blk F_d_17.out))).mono ?_
      rintro e w18 ⟨rfl, hb⟩
      have z_18 : w17.heap.size ≤ w18.heap.size := hb.size
      have F_a_18 := Lib.hid (Blk.below F_a_17.out hb F_a_17.out.lt)
      clear F_a_17
      have F_b_18 := Lib.hid (Blk.below F_b_17.out hb F_b_17.out.lt)
      clear F_b_17
      have F_d_18 := Lib.hid (Blk.below F_d_17.out hb F_d_17.out.lt)
      clear F_d_17
      have B_18 := Lib.hid (Below.trans B_17.out (hb.mono B_17.out.size))
      clear B_17
      clear hb
      go_wp2_with fail
      have BB := B_18
      have hmk : ∀ w : World, Sem.run Try.prog (Instr.makeSlice 22 (.int .i64 (n : Int)) (.int .i64 (n : Int))) w = .ok (.slice (some ⟨w.heap.size, 0, none⟩) n n) (w.alloc (.cells (row .u8 (List.replicate n 0)) 5 (0, 0))) := fun _ => mk_run 22 5 .u8 .i64 .i64 n n 1 _ Try.underlying22 info_u8 (Nat.le_refl _) (by omega) (by omega)
      have M1 : Hid (l.map (gm 1) = l) := Lib.hid (map_one H8.out)
      have MZ : Hid (l.map (gm 0) = List.replicate n 0) := Lib.hid (by rw [map_zero, HN.out])
      go_region_held3 (fun _ => True) (trivial) (first
        | (go_at_call 15; refine (times_calls _ _ _ n _ l _ (by decide) (by decide) HN.out hn3 (by exact Rd.below HR.out (by with_reducible first | exact BB.out.drew | exact BB.out | exact BB.out.alloc BB.out.size _)) H8.out).mono ?_; rintro e wt ⟨rfl, ht, hb⟩; (first | rw [show (1 : Int).toNat = 1 from rfl, M1.out] at ht | rw [show (0 : Int).toNat = 0 from rfl, MZ.out] at ht); replace BB := Lib.hid (below_step (by with_reducible first | exact BB.out.drew | exact BB.out | exact BB.out.alloc BB.out.size _) hb))
        | (go_at_call 14; refine (equal_below _ _ n _ _ l _ HN.out hn3 (by exact Rd.of_blk ht) (by exact Rd.below HR.out (by with_reducible first | exact BB.out.drew | exact BB.out | exact BB.out.alloc BB.out.size _))).mono ?_; rintro e we ⟨rfl, hb⟩; replace BB := Lib.hid (below_step (by with_reducible first | exact BB.out.drew | exact BB.out | exact BB.out.alloc BB.out.size _) hb))
        | (go_at_call 14; refine (equal_below _ _ n _ _ (List.replicate n 0) _ (by simp) hn3 (by first | exact Rd.of_blk ht | exact Rd.of_blk (by have h := ht; rw [World.size_alloc] at h; exact h) | exact Rd.of_blk (Blk.alloc _ ht)) (by first | exact Rd.of_blk (Blk.below (Blk.new _ _ _) hb (by simp)) | exact Rd.of_blk (Blk.new _ _ _))).mono ?_; rintro e we ⟨rfl, hb⟩; replace BB := Lib.hid (below_step (by with_reducible first | exact BB.out.drew | exact BB.out | exact BB.out.alloc BB.out.size _) hb))
        )
      all_goals (go_wp2_with fail; go_ret; exact ⟨rfl, BB.out⟩)

end Go.Proofs.Ythfenafhdigniaa.L6
