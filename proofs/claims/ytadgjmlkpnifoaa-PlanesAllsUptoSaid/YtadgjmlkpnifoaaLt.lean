/- Layer 8: lists laid among marks; printed by gen/port.py out of layer 5's. -/
import Derived.Test.YtadgjmlkpnifoaaJ5
import Derived.Deep.RegionLaw
namespace Go.Proofs.Ytadgjmlkpnifoaa.Pq
set_option linter.unusedSimpArgs false
set_option linter.unusedVariables false
open Go Go.RowKit Go.Proofs.Ytadgjmlkpnifoaa Go.Proofs.Ytadgjmlkpnifoaa.Mm Go.Proofs.Ytadgjmlkpnifoaa.Gh Go.Proofs.Ytadgjmlkpnifoaa.Wr Go.Proofs.Ytadgjmlkpnifoaa.St

/-- n brought to 0 .. 19. -/
def rm (n : Int) : Nat := ((n.tmod 20 + 20) % 20).toNat
theorem rm_lt (n : Int) : rm n < 20 := by
  have := Int.emod_lt_of_pos (n.tmod 20 + 20) (b := 20) (by decide)
  unfold rm; omega

set_option maxRecDepth 100000 in
theorem room_st (n : Int) (w : World) : Calls Try.prog 52 #[.int .i64 n] w fun e w' => e = .returned (.int .i64 ((rm n : Nat) : Int)) ∧ w = w' := by
  obtain ⟨t, ht⟩ : ∃ t, n.tmod 20 = t := ⟨_, rfl⟩
  have t1 : -20 < t := by rw [← ht]; have := Int.lt_tmod_of_pos n (b := 20) (by decide); omega
  have t2 : t < 20 := by rw [← ht]; exact Int.tmod_lt_of_pos n (by decide)
  have hr : (t + 20) % 20 = ((rm n : Nat) : Int) := by
    have := Int.emod_nonneg (t + 20) (b := 20) (by decide)
    unfold rm
    rw [ht]
    omega
  go_enter Try.func52, Try.ntmps52
  go_wp2
  go_ret
  exact ⟨congrArg (fun z => Ending.returned (Value.int .i64 z)) hr, rfl⟩

/-- The marks: N of them, from mark on. -/
def mkL (mark N : Nat) : List Nat := (List.range N).map fun i => (mark + i) % 256
theorem mkL_length (mark N : Nat) : (mkL mark N).length = N := by simp [mkL]
theorem mkL_get {mark N i : Nat} (h : i < N) : (mkL mark N).getD i 0 = (mark + i) % 256 := by simp [mkL, h]
theorem mkL_fill (mark N : Nat) : mkL mark N = fill (fun i => (mark + i) % 256) N N := (fill_done _ _).symm
theorem mkL_b8 (mark N : Nat) : B8 (mkL mark N) := by
  intro x hx
  obtain ⟨y, _, rfl⟩ := List.mem_map.1 hx
  exact Nat.mod_lt _ (by decide)
/-- What stands about a piece is as it was laid. -/
def Around (D : List Nat) (ra n N mark : Nat) : Prop := D.length = N ∧ ∀ i, i < N → (i < ra ∨ ra + n ≤ i) → D.getD i 0 = (mark + i) % 256
theorem around_wr {ra n N mark od : Nat} {D x : List Nat} (h : Around D ra n N mark) (hx : x.length = n) (ho : 0 < n → od = ra) (hN : ra + n ≤ N) (hod : od ≤ ra) : Around (Wr.wr D od x) ra n N mark := by
  refine ⟨by rw [wr_length]; exact h.1, fun i hi hc => ?_⟩
  rw [← h.2 i hi hc, List.getD_eq_getElem?_getD, wr_get _ _ _ _ (by rw [h.1]; omega), if_neg (by by_cases h0 : 0 < n; · have := ho h0; omega
                                                                                                 · omega), ← List.getD_eq_getElem?_getD]
theorem around_mk (ra n N mark : Nat) : Around (mkL mark N) ra n N mark := ⟨mkL_length _ _, fun _ hi _ => mkL_get hi⟩

/-- The piece, among marks. -/
def LaidR (w : World) (n ra rb mark : Nat) (x : List Nat) (e : Ending) (w' : World) : Prop :=
  ∃ N b od cc, N = ra + n + rb ∧ e = .returned (.tuple #[.slice (some ⟨b, 0, none⟩) N N, .slice (some ⟨b, od, none⟩) n cc]) ∧ od ≤ ra ∧ (0 < n → od = ra) ∧ St w w' [] [bt b (Wr.wr (mkL mark N) od x)]

set_option maxRecDepth 100000 in
set_option maxHeartbeats 2000000 in
theorem laid_st {A : Option Addr} {n cp mark : Nat} {x : List Nat} {ah bh : Int} {w : World} (hx : x.length = n) (hn : n ≤ 140737488351232) (hr : Rd w A x) (hmark : mark < 256) :
    Calls Try.prog 48 #[.slice A n cp, .int .i64 ah, .int .i64 bh, .int .u8 mark] w (LaidR w n (rm ah) (rm bh) mark x) := by
  have HN := Lib.hid hx; have HR := Lib.hid hr
  clear hx hr
  have S0 := Lib.hid (St.start w)
  have ha := rm_lt ah
  have hb := rm_lt bh
  obtain ⟨ra, era⟩ : ∃ ra, Hid (rm ah = ra) := ⟨_, Lib.hid rfl⟩
  obtain ⟨rb, erb⟩ : ∃ rb, Hid (rm bh = rb) := ⟨_, Lib.hid rfl⟩
  rw [era.out] at ha ⊢
  rw [erb.out] at hb ⊢
  obtain ⟨N, hN⟩ : ∃ N, N = ra + n + rb := ⟨_, rfl⟩
  have HNN := Lib.hid hN
  have eN : (ra : Int) + (n : Int) + (rb : Int) = (N : Int) := by omega
  clear hN
  have hNb : N ≤ 140737488351232 + 40 := by have := HNN.out; omega
  go_enter Try.func48, Try.ntmps48
  go_wp2_with fail
  refine (room_st ah _).mono ?_
  rintro e _ ⟨rfl, rfl⟩
  rw [era.out]
  go_wp2_with fail
  refine (room_st bh _).mono ?_
  rintro e _ ⟨rfl, rfl⟩
  rw [erb.out]
  go_wp2_with ((with_reducible refine at_slot (N := 22) rfl ?_); refine make_law rfl 24 5 _ .u8 N 1 rfl rfl Try.underlying24 info_u8 (by omega) (by omega) S0.out ?_; intro ab w1 hs; have S1 := Lib.hid hs; clear hs S0)
  clear eN
  by_cases hNr : N = ra
  · obtain rfl : N = ra := hNr
    go_loopw [12] (fun vi wr => ∃ i : Nat, i ≤ N ∧ vi = .int .i64 i ∧ St w wr [] [bt ab (fill (fun i => (mark + i) % 256) N i)]) (fun vi _ => N - (intOf vi).toNat)
    case atStart => exact ⟨0, by omega, rfl, by rw [fill_zero]; exact S1.out⟩
    case round =>
      clear S1
      obtain ⟨i, hi, rfl, hs⟩ := hrel
      have S2 := Lib.hid hs; clear hs
      by_cases hlt : i < N
      · have m1 := (S2.out.blk mem0).cellRow (i := i) (by rw [fill_length]; exact hlt)
        have f1 := (S2.out.blk mem0).free (i := i)
        generalize (fill (fun i => (mark + i) % 256) N i).getD i 0 = y at m1
        have HF := Lib.hid (fill_step (f := fun i => (mark + i) % 256) hlt)
        obtain ⟨z, hz⟩ : ∃ z, Hid (z = (mark + i) % 256) := ⟨_, Lib.hid rfl⟩
        have e1 : ((mark : Int) + (i : Int)) % 256 = (z : Int) := by rw [hz.out]; omega
        have i0 : (0 : Int) ≤ (i : Int) := by omega
        have i1 : (i : Int) < (N : Int) := by omega
        go_wp2_with fail
        clear e1
        go_roundw
        case rel =>
          refine ⟨i + 1, by omega, by go_num, ?_⟩
          have h := S2.out.setRow (N1 := []) i z
          rw [hz.out, HF.out] at h
          rw [hz.out]
          exact h
        case measure => simp [intOf]; omega
      · obtain rfl : N = i := by omega
        rw [← mkL_fill] at S2
        have hle : N + n ≤ N := by have := HNN.out; omega
        have eo : cutA (some ⟨ab, 0, none⟩) N N = some ⟨ab, 0, none⟩ := by
          unfold cutA
          rw [if_pos rfl]
        have HEO := Lib.hid eo
        clear eo
        have hsz : (Try.prog.info? 5).map (·.size) = some 1 := by kernel_rfl
        have HSZ := Lib.hid hsz
        clear hsz
        go_wp2_with (first
          | ((with_reducible refine at_slot (N := 38) rfl ?_); refine slice_law rfl 24 5 Try.underlying24 HSZ.out _ _ _ rfl (some ⟨ab, 0, none⟩) N N N (N - N) rfl (N : Int) 0 (.inr ⟨rfl, rfl⟩) (.inl ⟨rfl, by omega⟩) (by omega) ?_; rw [HEO.out])
          | ((with_reducible refine at_slot (N := 40) rfl ?_); refine copy_bytes (N1 := []) rfl _ _ rfl ab 0 _ _ _ _ S2.out rfl A n cp rfl x (by have := HNN.out; rw [HN.out]; show n = min n _; omega) (S2.out.ext HR.out) (by rw [HN.out, mkL_length]; omega) ?_; intro w3 hs; have S3 := Lib.hid hs; clear hs S2))
        have k1 : (N : Int) ≤ (N : Int) := by omega
        have k2 : (N : Int) + (n : Int) ≤ (N : Int) := by omega
        have k3 : (N : Int) ≤ (N : Int) + (n : Int) := by omega
        have k4 : ((N : Int) + (n : Int)).toNat = N + n := by omega
        have k5 : N + n - N = n := by omega
        have k6 : (0 : Int) ≤ (N : Int) + (n : Int) := by omega
        have k7 : IntKind.i64.wrap ((N : Int) + (n : Int)) = (N : Int) + (n : Int) := IntWalk.i64_in _ (by omega)
        go_quiet (fail)
        clear k1 k2 k3 k4 k5 k6 k7
        go_wp2_with fail
        go_ret2
        exact ⟨N, ab, 0, _, HNN.out, rfl, by omega, by omega, S3.out.drewN⟩
  · have hNr2 : ¬ ra = N := fun h => hNr h.symm
    go_loopw [12] (fun vi wr => ∃ i : Nat, i ≤ N ∧ vi = .int .i64 i ∧ St w wr [] [bt ab (fill (fun i => (mark + i) % 256) N i)]) (fun vi _ => N - (intOf vi).toNat)
    case atStart => exact ⟨0, by omega, rfl, by rw [fill_zero]; exact S1.out⟩
    case round =>
      clear S1
      obtain ⟨i, hi, rfl, hs⟩ := hrel
      have S2 := Lib.hid hs; clear hs
      by_cases hlt : i < N
      · have m1 := (S2.out.blk mem0).cellRow (i := i) (by rw [fill_length]; exact hlt)
        have f1 := (S2.out.blk mem0).free (i := i)
        generalize (fill (fun i => (mark + i) % 256) N i).getD i 0 = y at m1
        have HF := Lib.hid (fill_step (f := fun i => (mark + i) % 256) hlt)
        obtain ⟨z, hz⟩ : ∃ z, Hid (z = (mark + i) % 256) := ⟨_, Lib.hid rfl⟩
        have e1 : ((mark : Int) + (i : Int)) % 256 = (z : Int) := by rw [hz.out]; omega
        have i0 : (0 : Int) ≤ (i : Int) := by omega
        have i1 : (i : Int) < (N : Int) := by omega
        go_wp2_with fail
        clear e1
        go_roundw
        case rel =>
          refine ⟨i + 1, by omega, by go_num, ?_⟩
          have h := S2.out.setRow (N1 := []) i z
          rw [hz.out, HF.out] at h
          rw [hz.out]
          exact h
        case measure => simp [intOf]; omega
      · obtain rfl : N = i := by omega
        rw [← mkL_fill] at S2
        have hle : ra + n ≤ N := by have := HNN.out; omega
        have eo : cutA (some ⟨ab, 0, none⟩) N ra = some ⟨ab, ra, none⟩ := by
          unfold cutA
          rw [if_neg hNr, Option.map_some, add_none, Nat.zero_add]
        have HEO := Lib.hid eo
        clear eo
        have hsz : (Try.prog.info? 5).map (·.size) = some 1 := by kernel_rfl
        have HSZ := Lib.hid hsz
        clear hsz
        go_wp2_with (first
          | ((with_reducible refine at_slot (N := 38) rfl ?_); refine slice_law rfl 24 5 Try.underlying24 HSZ.out _ _ _ rfl (some ⟨ab, 0, none⟩) N N ra (N - ra) rfl (ra : Int) 0 (.inr ⟨rfl, rfl⟩) (.inl ⟨rfl, by omega⟩) (by omega) ?_; rw [HEO.out])
          | ((with_reducible refine at_slot (N := 40) rfl ?_); refine copy_bytes (N1 := []) rfl _ _ rfl ab ra _ _ _ _ S2.out rfl A n cp rfl x (by have := HNN.out; rw [HN.out]; show n = min n _; omega) (S2.out.ext HR.out) (by rw [HN.out, mkL_length]; omega) ?_; intro w3 hs; have S3 := Lib.hid hs; clear hs S2))
        have k1 : (ra : Int) ≤ (N : Int) := by omega
        have k2 : (ra : Int) + (n : Int) ≤ (N : Int) := by omega
        have k3 : (ra : Int) ≤ (ra : Int) + (n : Int) := by omega
        have k4 : ((ra : Int) + (n : Int)).toNat = ra + n := by omega
        have k5 : ra + n - ra = n := by omega
        have k6 : (0 : Int) ≤ (ra : Int) + (n : Int) := by omega
        have k7 : IntKind.i64.wrap ((ra : Int) + (n : Int)) = (ra : Int) + (n : Int) := IntWalk.i64_in _ (by omega)
        go_quiet (fail)
        clear k1 k2 k3 k4 k5 k6 k7
        go_wp2_with fail
        go_ret2
        exact ⟨N, ab, ra, _, HNN.out, rfl, by omega, by omega, S3.out.drewN⟩

set_option maxRecDepth 100000 in
set_option maxHeartbeats 1000000 in
theorem around_q {A : Option Addr} {N cp ra n mark : Nat} {D : List Nat} {w : World} (h : Around D ra n N mark) (hr : Rd w A D) (hN : N ≤ 281474976710656) (hra : ra ≤ N) (hn : n ≤ N) :
    Calls Try.prog 51 #[.slice A N cp, .int .i64 ra, .int .i64 n, .int .u8 mark] w fun e w' => e = .returned (.bool true) ∧ w = w' := by
  have HA := Lib.hid h; have HR := Lib.hid hr
  clear h hr
  go_enter Try.func51, Try.ntmps51
  go_wp2_with fail
  go_loopw [9] (fun vi wr => ∃ i : Nat, i ≤ N ∧ vi = .int .i64 i ∧ w = wr) (fun vi _ => N - (intOf vi).toNat)
  case atStart => exact ⟨0, by omega, rfl, rfl⟩
  case round =>
    obtain ⟨i, hi, rfl, rfl⟩ := hrel
    by_cases hlt : i < N
    · have i0 : (0 : Int) ≤ (i : Int) := by omega
      have i1 : (i : Int) < (N : Int) := by omega
      by_cases c1 : i < ra
      · have hd := i0
        obtain ⟨b, o, eA, k1⟩ := HR.out (by rw [HA.out.1]; omega)
        have m1 := k1 i (by rw [HA.out.1]; exact hlt)
        rw [HA.out.2 i hlt (.inl c1)] at m1
        subst eA
        clear k1
        obtain ⟨z, hz⟩ : ∃ z, Hid (z = (mark + i) % 256) := ⟨_, Lib.hid rfl⟩
        rw [← hz.out] at m1
        have e1 : ((mark : Int) + (i : Int)) % 256 = (z : Int) := by rw [hz.out]; omega
        go_wp2_with fail
        clear e1
        go_roundw
        case rel => exact ⟨i + 1, by omega, by go_num, trivial⟩
        case measure => simp [intOf]; omega
      · by_cases c2 : (ra : Int) + (n : Int) ≤ (i : Int)
        · have hd := i0
          obtain ⟨b, o, eA, k1⟩ := HR.out (by rw [HA.out.1]; omega)
          have m1 := k1 i (by rw [HA.out.1]; exact hlt)
          rw [HA.out.2 i hlt (.inr (by omega))] at m1
          subst eA
          clear k1
          obtain ⟨z, hz⟩ : ∃ z, Hid (z = (mark + i) % 256) := ⟨_, Lib.hid rfl⟩
          rw [← hz.out] at m1
          have e1 : ((mark : Int) + (i : Int)) % 256 = (z : Int) := by rw [hz.out]; omega
          go_wp2_with fail
          clear e1
          go_roundw
          case rel => exact ⟨i + 1, by omega, by go_num, trivial⟩
          case measure => simp [intOf]; omega
        · go_wp2_with fail
          go_roundw
          case rel => exact ⟨i + 1, by omega, by go_num, trivial⟩
          case measure => simp [intOf]; omega
    · obtain rfl : N = i := by omega
      go_wp2_with fail
      go_ret
      exact ⟨rfl, rfl⟩

theorem laid_any {A : Option Addr} {n cp : Nat} {mark : Int} {x : List Nat} {ah bh : Int} {w : World} (hx : x.length = n) (hn : n ≤ 140737488351232) (hr : Rd w A x) (h0 : 0 ≤ mark) (hmark : mark < 256) :
    Calls Try.prog 48 #[.slice A n cp, .int .i64 ah, .int .i64 bh, .int .u8 mark] w (LaidR w n (rm ah) (rm bh) mark.toNat x) := by
  obtain ⟨mark, rfl⟩ := Int.eq_ofNat_of_zero_le h0
  exact laid_st hx hn hr (by omega)

theorem around_any {A : Option Addr} {N cp ra n : Nat} {mark : Int} {D : List Nat} {w : World} (h0 : 0 ≤ mark) (h : Around D ra n N mark.toNat) (hr : Rd w A D) (hN : N ≤ 281474976710656) (hra : ra ≤ N) (hn : n ≤ N) :
    Calls Try.prog 51 #[.slice A N cp, .int .i64 ra, .int .i64 n, .int .u8 mark] w fun e w' => e = .returned (.bool true) ∧ w = w' := by
  obtain ⟨mark, rfl⟩ := Int.eq_ofNat_of_zero_le h0
  exact around_q h hr hN hra hn

end Go.Proofs.Ytadgjmlkpnifoaa.Pq
