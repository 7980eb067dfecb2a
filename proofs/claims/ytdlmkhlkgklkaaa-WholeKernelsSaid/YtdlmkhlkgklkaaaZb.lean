/- The whole, stage 9: the law WholeKernels (printed by gen/mk_zb.py). -/
import Derived.Test.YtdlmkhlkgklkaaaZa
namespace Go.Proofs.Ytdlmkhlkgklkaaa.Sk
set_option linter.unusedSimpArgs false
set_option linter.unusedVariables false
open Go Go.RowKit Go.Proofs.Ytdlmkhlkgklkaaa Go.Proofs.Ytdlmkhlkgklkaaa.Mm Go.Proofs.Ytdlmkhlkgklkaaa.Gf Go.Proofs.Ytdlmkhlkgklkaaa.Wr Go.Proofs.Ytdlmkhlkgklkaaa.Nb Go.Proofs.Ytdlmkhlkgklkaaa.St

theorem ext9 {a b : List Nat} {n : Nat} (ha : a.length = n) (hb : b.length = n) (h : ∀ t, t < n → a.getD t 0 = b.getD t 0) : a = b := by
  apply List.ext_getElem (by rw [ha, hb])
  intro t h1 h2
  have := h t (by omega)
  simpa [h1, h2] using this
theorem getD_head {n i : Nat} {D d : List Nat} (h : D.take n = d) (hi : i < n) : D.getD i 0 = d.getD i 0 := by
  rw [← h, List.getD_eq_getElem?_getD, List.getD_eq_getElem?_getD, List.getElem?_take, if_pos hi]
theorem add_list {n c : Nat} {D d l : List Nat} (hd : D.take n = d) (hdl : d.length = n) (hl : l.length = n) : ((List.range n).map fun i => D.getD (0 + i) 0 ^^^ gm c (l.getD i 0)) = xs d (l.map (gm c)) := by
  refine ext9 (n := n) (by simp) (by rw [xs_length, hdl]) fun t ht => ?_
  rw [xs_get (by omega)]
  have e : D.getD (0 + t) 0 = d.getD t 0 := by rw [Nat.zero_add]; exact getD_head hd ht
  simp only [List.getD_eq_getElem?_getD, List.getElem?_map, List.getElem?_range ht, Option.map_some, Option.getD_some]
  simp only [List.getD_eq_getElem?_getD] at e
  rw [e]
  simp [show t < l.length by omega]
theorem Head.wr {n : Nat} {D d vs : List Nat} (H : Head n D d) (hv : vs.length = n) (h8 : B8 vs) : Head n (Wr.wr D 0 vs) vs := by
  refine ⟨by rw [wr_length]; exact H.1, by rw [wr_length]; exact H.2.1, wr_b8 H.2.2.1 h8, ?_⟩
  apply List.ext_getElem?
  intro j
  have h1 := H.1
  rw [List.getElem?_take]
  by_cases hj : j < n
  · rw [if_pos hj, Wr.wr_get _ _ _ _ (by omega), if_pos (by omega)]; rfl
  · rw [if_neg hj, List.getElem?_eq_none (by omega)]
theorem Head.rd {n b : Nat} {E l : List Nat} {w0 w : World} {N : List Ent} (h : Head n E l) (hs : St w0 w [] N) (hm : bt b E ∈ N) : Rd w (some ⟨b, 0, none⟩) l := by
  have := (hs.rd hm).piece 0 n
  rw [List.drop_zero, h.2.2.2] at this
  exact this
theorem al_ne {s a : Nat} (h : s ≠ a) : ∀ b o, (some ⟨s, 0, none⟩ : Option Addr) = some ⟨b, o, none⟩ → b ≠ a ∨ 0 ≤ o := fun _ _ _ => .inr (Nat.zero_le _)
theorem off_ne {s a : Nat} (h : s ≠ a) : Off [a] (some ⟨s, 0, none⟩) := Off.some (by simpa using h)

section
variable {c kb a s n cd cs : Nat} {D d l : List Nat} {w : World} {x : Addr}
theorem tmul (hc : c < 256) (hk : Blk w kb 44 (Mm.row .u8 Tk.tabL)) (hd : Bytes w a D) (HD : Head n D d) (hs : Rd w (some ⟨s, 0, none⟩) l) (hl : l.length = n) (h8 : B8 l) (hsa : s ≠ a) (hka : kb ≠ a) (hn : n ≤ 140737488351232) :
    Calls Try.prog 9 #[.pointer (some ⟨kb, 0, none⟩), .int .u8 (c : Int), .slice (some ⟨a, 0, none⟩) n cd, .slice (some ⟨s, 0, none⟩) n cs] w fun e w' => e = .returned (.int .i64 0) ∧ St w w' [bt a (Wr.wr D 0 (l.map (gm c)))] [] :=
  Tk.mul_at c kb a 0 n cd _ cs D l w hc hk hd hka (by have := HD.1; omega) hl h8 HD.2.2.1 (by omega) hs (al_ne hsa)

theorem tadd (hc : c < 256) (hk : Blk w kb 44 (Mm.row .u8 Tk.tabL)) (hd : Bytes w a D) (HD : Head n D d) (hdl : d.length = n) (hs : Rd w (some ⟨s, 0, none⟩) l) (hl : l.length = n) (h8 : B8 l) (hsa : s ≠ a) (hka : kb ≠ a) (hn : n ≤ 140737488351232) :
    Calls Try.prog 10 #[.pointer (some ⟨kb, 0, none⟩), .int .u8 (c : Int), .slice (some ⟨a, 0, none⟩) n cd, .slice (some ⟨s, 0, none⟩) n cs] w fun e w' => e = .returned (.int .i64 0) ∧ St w w' [bt a (Wr.wr D 0 (xs d (l.map (gm c))))] [] := by
  have := Tk.add_at c kb a 0 n cd (some ⟨s, 0, none⟩) cs D l w hc hk hd hka (by have := HD.1; omega) hl h8 HD.2.2.1 (by omega) hs (al_ne hsa)
  rw [add_list HD.2.2.2 hdl hl] at this
  exact this

theorem nmul (hc : c < 256) (hd : Bytes w a D) (HD : Head n D d) (hs : Rd w (some ⟨s, 0, none⟩) l) (hl : l.length = n) (h8 : B8 l) (hsa : s ≠ a) (hn : n ≤ 140737488351232) :
    Calls Try.prog 13 #[.pointer (some x), .int .u8 (c : Int), .slice (some ⟨a, 0, none⟩) n cd, .slice (some ⟨s, 0, none⟩) n cs] w fun e w' => e = .returned (.int .i64 0) ∧ St w w' [bt a (Wr.wr D 0 (l.map (gm c)))] [] :=
  (Nb.mul_calls x c a 0 n cd _ cs D l w hc hd (by have := HD.1; omega) hl h8 HD.2.2.1 (by omega) hs (al_ne hsa)).mono fun e w' ⟨he, hm, hk⟩ => ⟨he, .of_but hk hm hd.lt⟩

theorem nadd (hc : c < 256) (hd : Bytes w a D) (HD : Head n D d) (hdl : d.length = n) (hs : Rd w (some ⟨s, 0, none⟩) l) (hl : l.length = n) (h8 : B8 l) (hsa : s ≠ a) (hn : n ≤ 140737488351232) :
    Calls Try.prog 11 #[.pointer (some x), .int .u8 (c : Int), .slice (some ⟨a, 0, none⟩) n cd, .slice (some ⟨s, 0, none⟩) n cs] w fun e w' => e = .returned (.int .i64 0) ∧ St w w' [bt a (Wr.wr D 0 (xs d (l.map (gm c))))] [] := by
  have := (Nb.add_calls x c a 0 n cd (some ⟨s, 0, none⟩) cs D l w hc hd (by have := HD.1; omega) hl h8 HD.2.2.1 (by omega) hs (al_ne hsa))
  rw [add_list HD.2.2.2 hdl hl] at this
  exact this.mono fun e w' ⟨he, hm, hk⟩ => ⟨he, .of_but hk hm hd.lt⟩

theorem smul9 (hc : c < 256) (hd : Bytes w a D) (HD : Head n D d) (hs : Rd w (some ⟨s, 0, none⟩) l) (hl : l.length = n) (h8 : B8 l) (hsa : s ≠ a) (hcd : n ≤ cd) (hcs : n ≤ cs) (hn : n ≤ 140737488351232) :
    Calls Try.prog 14 #[.pointer (some x), .int .u8 (c : Int), .slice (some ⟨a, 0, none⟩) n cd, .slice (some ⟨s, 0, none⟩) n cs] w fun e w' => e = .returned (.int .i64 0) ∧ St w w' [bt a (Wr.wr D 0 (l.map (gm c)))] [] := by
  have := Sl.mul_at (p := x) (c := (c : Int)) (od := 0) (cd := cd) (cs := cs) (by omega) (by omega) hd (by have := HD.1; omega) hl h8 HD.2.2.1 hcd hcs (by omega) (SrcK.srcs (.inl ⟨hs, off_ne hsa⟩))
  simp only [Int.toNat_natCast] at this
  exact this

theorem sadd9 (hc : c < 256) (hd : Bytes w a D) (HD : Head n D d) (hdl : d.length = n) (hs : Rd w (some ⟨s, 0, none⟩) l) (hl : l.length = n) (h8 : B8 l) (hsa : s ≠ a) (hcd : n ≤ cd) (hcs : n ≤ cs) (hn : n ≤ 140737488351232) :
    Calls Try.prog 12 #[.pointer (some x), .int .u8 (c : Int), .slice (some ⟨a, 0, none⟩) n cd, .slice (some ⟨s, 0, none⟩) n cs] w fun e w' => e = .returned (.int .i64 0) ∧ St w w' [bt a (Wr.wr D 0 (xs d (l.map (gm c))))] [] := by
  have := Sl.add_at (p := x) (c := (c : Int)) (od := 0) (cd := cd) (cs := cs) (by omega) (by omega) hd (by have := HD.1; omega) hl h8 HD.2.2.1 hcd hcs (by omega) (SrcK.srcs (.inl ⟨hs, off_ne hsa⟩))
  simp only [Int.toNat_natCast] at this
  rw [hl, add_list HD.2.2.2 hdl hl] at this
  exact this
end

section
variable {p j : Nat} {S : List Ent} {c a s n cd cs : Nat} {D d l : List Nat} {w : World}
theorem ksadd (SE : SetE p j S) (hb : There w S) (hne : ∀ e ∈ S, e.b ≠ a) (hc : c < 256) (hd : Bytes w a D) (HD : Head n D d) (hdl : d.length = n) (hs : Rd w (some ⟨s, 0, none⟩) l) (hl : l.length = n) (h8 : B8 l) (hsa : s ≠ a) (hcd : n ≤ cd) (hcs : n ≤ cs) (hn : n ≤ 140737488351232) :
    Calls Try.prog 16 #[.pointer (some ⟨p, 0, none⟩), .int .u8 (c : Int), .slice (some ⟨a, 0, none⟩) n cd, .slice (some ⟨s, 0, none⟩) n cs] w fun e w' => e = .returned (.int .i64 0) ∧ St w w' [bt a (Wr.wr D 0 (xs d (l.map (gm c))))] [] := by
  have := sadd_at (c := (c : Int)) (od := 0) (cd := cd) (cs := cs) SE hb hne (by omega) (by omega) hd (by have := HD.1; omega) hl h8 HD.2.2.1 hcd hcs (by omega) (.inl ⟨hs, off_ne hsa⟩)
  simp only [Int.toNat_natCast] at this
  rw [add_list HD.2.2.2 hdl hl] at this
  exact this
end
theorem sum_single {c n : Nat} {l : List Nat} (hl : l.length = n) : sumL [c] [l] 0 n = l.map (gm c) := by
  refine ext9 (n := n) (sumL_length _ _ _ _) (by simpa using hl) fun t ht => ?_
  show (sumK [c] [l] 0 n 1).getD t 0 = _
  rw [sumK_get ht]
  show 0 ^^^ gm c (l.getD (0 + t) 0) = _
  rw [Nat.zero_xor, Nat.zero_add]
  simp [show t < l.length by omega]

theorem cv_grow {w0 w : World} {N G : List Ent} {A : Option Addr} {n c : Nat} {l : List Nat} (hl : l.length = n) (hg : GrowB (.slice A n c) l G) (hz : n = 0 → A = none) (hs : St w0 w [] N) (hG : ∀ e ∈ G, e ∈ N) :
    (convert 22 9 (.slice A n c)).run Try.prog w = .ok (.string (strL l)) w := by
  subst hl
  have hr := hg.read hs hG
  rcases hg.2 with ⟨B, e, h0, _⟩ | ⟨g, cap, cur, e, _, _, _, _, _, _⟩
  · obtain rfl : l = [] := List.eq_nil_of_length_eq_zero h0
    rw [hz rfl]
    exact cv_none w
  · injection e with e1 e2 e3
    subst e1
    exact cv_some rfl hr

theorem bslice_stg {ops : Array Oper} {rest : List Oper} {o : Oper} {a : Act} {Q : Exit → Act → World → Prop} {w0 w : World} {W N : List Ent} (hw : Region.wanted o (yielded ops a.tmps) = true) (t e : TypeId) (n : Nat) (parts : Array (Nat × Operand)) (c : Array Value) (ho : o.op = .buildSlice t n parts)
    (h : ∀ w : World, (Instr.buildSlice t n (parts.map fun (i, x) => (i, a.eval x))).run Try.prog w = .ok (.slice (some ⟨w.heap.size, 0, none⟩) n n) (w.alloc (.cells c e (0, 0)))) (hs : St w0 w W N)
    (hK : ∀ b w', St w0 w' W (⟨b, e, c⟩ :: N) → wpList Try.prog ops Q rest (a.put o.dst (.slice (some ⟨b, 0, none⟩) n n)) w') : wpList Try.prog ops Q (o :: rest) a w :=
  evg hw (bslice_run t e n parts c ho h) (hK _ _ (hs.alloc e c))
theorem rdL_one {s c hb n : Nat} {l xs : List Nat} {w : World} (hv : RdV es w (some ⟨hb, 0, none⟩) [⟨some ⟨s, 0, none⟩, n, c⟩]) (hl : l.length = n) (hc : n ≤ c) (hr : Rd w (some ⟨s, 0, none⟩) l) (h1 : hb ∉ xs) (h2 : s ∉ xs) : RdL w xs (some ⟨hb, 0, none⟩) [l] :=
  ⟨_, hv, Off.some h1, rfl, fun i d hd => by
    rcases i with _ | i
    · simp at hd
      subst hd
      exact ⟨hl.symm, hc, hr, Off.some h2⟩
    · simp at hd⟩

set_option maxRecDepth 100000 in
set_option maxHeartbeats 8000000 in
theorem whole_calls {c : Nat} {A1 A2 : Option Addr} {n n2 c1 c2 : Nat} {src old : List Nat} {w : World} (hc : c < 256) (l1 : src.length = n) (l2 : old.length = n2) (u1 : n ≤ 140737488351232) (r1 : Rd w A1 src) (r2 : Rd w A2 old) (b1 : B8 src) (b2 : B8 old) :
    Calls Try.prog 3 #[.int .u8 (c : Int), .slice A1 n c1, .slice A2 n2 c2] w fun e w' => e = .returned (.bool true) ∧ St w w' [] [] := by
  have L1 := Lib.hid l1; have L2 := Lib.hid l2; have R1 := Lib.hid r1; have R2 := Lib.hid r2; have B1 := Lib.hid b1; have B2 := Lib.hid b2
  clear l1 l2 r1 r2 b1 b2
  have S0 := Lib.hid (St.start w)
  obtain ⟨ov, HOVV⟩ : ∃ ov : Nat → Nat, Hid ((fun i => if i < n2 then old.getD i 0 else i % 256) = ov) := ⟨_, Lib.hid rfl⟩
  have HOV1 : Hid (∀ k, k < n2 → old.getD k 0 = ov k) := Lib.hid (fun k h => by rw [← HOVV.out]; simp [h])
  have HOV2 : Hid (∀ k, ¬ k < n2 → ov k = k % 256) := Lib.hid (fun k h => by rw [← HOVV.out]; simp [h])
  have HO : Hid (∀ k, ov k < 256) := Lib.hid (fun k => by
    by_cases h : k < n2
    · rw [← HOV1.out k h]; exact B2.out.get (i := k) (by rw [L2.out]; exact h)
    · rw [HOV2.out k h]; exact Nat.mod_lt _ (by decide))
  obtain ⟨DL, HDL⟩ : ∃ L, Hid ((List.range n).map ov = L) := ⟨_, Lib.hid rfl⟩
  obtain ⟨WL, HWL⟩ : ∃ L, Hid (src.map (gm c) = L) := ⟨_, Lib.hid rfl⟩
  obtain ⟨SL, HSL⟩ : ∃ L, Hid (xs DL WL = L) := ⟨_, Lib.hid rfl⟩
  have LD : Hid (DL.length = n) := Lib.hid (by rw [← HDL.out]; simp)
  have LW : Hid (WL.length = n) := Lib.hid (by rw [← HWL.out, List.length_map, L1.out])
  have LS : Hid (SL.length = n) := Lib.hid (by rw [← HSL.out, xs_length, LD.out])
  have BD : Hid (B8 DL) := Lib.hid (fun y hy => by
    rw [← HDL.out] at hy
    obtain ⟨i, _, rfl⟩ := List.mem_map.1 hy
    exact HO.out i)
  have BW : Hid (B8 WL) := Lib.hid (by rw [← HWL.out]; exact map_b8 hc)
  have BS : Hid (B8 SL) := Lib.hid (by rw [← HSL.out]; exact xs_b8 BD.out BW.out (by rw [LD.out, LW.out]))
  have HDT : Hid (∀ k, k < n → DL.take (k + 1) = DL.take k ++ [ov k]) := Lib.hid (fun k h => by
    rw [List.take_succ_eq_append_getElem (by rw [LD.out]; exact h)]
    congr 2
    have : DL[k]? = some (ov k) := by rw [← HDL.out]; simp [h]
    rw [List.getElem?_eq_getElem (by rw [LD.out]; exact h)] at this
    exact Option.some.inj this)
  have HWT : Hid (∀ k, k < n → WL.take (k + 1) = WL.take k ++ [gm c (src.getD k 0)]) := Lib.hid (fun k h => by
    rw [List.take_succ_eq_append_getElem (by rw [LW.out]; exact h)]
    congr 2
    have hk : k < src.length := by rw [L1.out]; exact h
    have : WL[k]? = some (gm c (src.getD k 0)) := by rw [← HWL.out]; simp [hk]
    rw [List.getElem?_eq_getElem (by rw [LW.out]; exact h)] at this
    exact Option.some.inj this)
  have HST : Hid (∀ k, k < n → SL.take (k + 1) = SL.take k ++ [ov k ^^^ gm c (src.getD k 0)]) := Lib.hid (fun k h => by
    rw [List.take_succ_eq_append_getElem (by rw [LS.out]; exact h)]
    congr 2
    have hk : k < src.length := by rw [L1.out]; exact h
    have e1 : SL.getD k 0 = ov k ^^^ gm c (src.getD k 0) := by
      rw [← HSL.out, xs_get (by rw [LD.out]; exact h), ← HDL.out, ← HWL.out]
      simp [h, hk]
    rw [List.getD_eq_getElem?_getD, List.getElem?_eq_getElem (by rw [LS.out]; exact h)] at e1
    exact e1)
  go_enter Try.func3, Try.ntmps3
  go_wp2_with fail
  go_loopw [7, 8, 9, 27] (fun vd vw vs vi wq => ∃ (k : Nat) (AD AW AS : Option Addr) (cD cW cS : Nat) (GD GW GS : List Ent), k ≤ n ∧ vi = .int .i64 k ∧ vd = .slice AD k cD ∧ vw = .slice AW k cW ∧ vs = .slice AS k cS ∧ GrowB (.slice AD k cD) (DL.take k) GD ∧ GrowB (.slice AW k cW) (WL.take k) GW ∧ GrowB (.slice AS k cS) (SL.take k) GS ∧ (k = 0 → AD = none) ∧ (k = 0 → AW = none) ∧ (k = 0 → AS = none) ∧ St w wq [] (GD ++ (GW ++ GS))) (fun _ _ _ vi _ => n - (intOf vi).toNat)
  case atStart => exact ⟨0, none, none, none, 0, 0, 0, [], [], [], by omega, rfl, rfl, rfl, rfl, GrowB.nil, GrowB.nil, GrowB.nil, fun _ => rfl, fun _ => rfl, fun _ => rfl, S0.out⟩
  case round =>
    clear S0
    obtain ⟨k, AD, AW, AS, cD, cW, cS, GD, GW, GS, hk, rfl, rfl, rfl, rfl, hgd, hgw, hgs, hzd, hzw, hzs, hs⟩ := hrel
    have S1 := Lib.hid hs; have HGD := Lib.hid hgd; have HGW := Lib.hid hgw; have HGS := Lib.hid hgs; have HZD := Lib.hid hzd; have HZW := Lib.hid hzw; have HZS := Lib.hid hzs; clear hs hgd hgw hgs hzd hzw hzs
    by_cases hlt : k < n
    · have k1 : (k : Int) < (n : Int) := by omega
      have HTD := Lib.hid (HDT.out k hlt); have HTW := Lib.hid (HWT.out k hlt); have HTS := Lib.hid (HST.out k hlt)
      have HLD : Hid ((DL.take k).length = k) := Lib.hid (by rw [List.length_take, LD.out]; omega)
      have HLW : Hid ((WL.take k).length = k) := Lib.hid (by rw [List.length_take, LW.out]; omega)
      have HLS : Hid ((SL.take k).length = k) := Lib.hid (by rw [List.length_take, LS.out]; omega)
      obtain ⟨b1, o1, e1, k2⟩ := (S1.out.ext R1.out) (by rw [L1.out]; omega)
      have x1 := k2 k (by rw [L1.out]; exact hlt)
      have hx := B1.out.get (i := k) (by rw [L1.out]; exact hlt)
      have hov := HO.out k
      have hgx := gm_lt (src.getD k 0) hc
      have hsx := Gf.xor_lt hov hgx
      have HM := Lib.hid (fun w : World => mul8_calls c (src.getD k 0) w hc hx)
      subst e1
      clear k2
      generalize src.getD k 0 = x at *
      generalize gm c x = y at *
      have e3 : Go.bits .xor .u8 ((ov k : Nat) : Int) (y : Int) = ((ov k ^^^ y : Nat) : Int) := Bt.xor8 hov hgx
      by_cases hko : k < n2
      · have k3 : (k : Int) < (n2 : Int) := by omega
        have HOV := Lib.hid (HOV1.out k hko)
        obtain ⟨b2, o2, e2, k4⟩ := (S1.out.ext R2.out) (by rw [L2.out]; omega)
        have x2 := k4 k (by rw [L2.out]; exact hko)
        rw [HOV.out] at x2
        subst e2
        clear k4
        generalize ov k = o at *
        go_wp2_with (first
          | ((with_reducible refine at_slot (N := 44) rfl ?_); refine bslice_st rfl _ 5 1 _ (Mm.row .u8 [o]) rfl (fun _ => by kernel_rfl) S1.out ?_; intro sb0 w2 h2; (try simp only [World.size_alloc, List.nil_append, List.cons_append, List.append_eq] at h2); have S2 := Lib.hid h2; clear h2 S1)
          | ((with_reducible refine at_slot (N := 45) rfl ?_); refine append_bytes (G := GD) (N := GW ++ GS) rfl _ _ rfl (.slice AD k cD) (DL.take k) rfl ((S2.out.drop (List.sublist_cons_self _ _)).perm (List.Perm.refl _)) HGD.out (some ⟨sb0, 0, none⟩) 1 1 [o] rfl rfl (S2.out.rd mem0) (fun y hy => by rw [List.mem_singleton.1 hy]; omega) (by rw [HLD.out]; show k + 1 ≤ _; omega) ?_; intro v9 w3 GD' h3 hg hz; obtain ⟨AD', cD', rfl⟩ := hg.shape; have ez : (DL.take k ++ [o]).length = k + 1 := (by rw [List.length_append, HLD.out]; rfl); rw [ez] at hg ⊢; have HGD' := Lib.hid hg; clear hg hz ez; (try simp only [World.size_alloc, List.nil_append, List.cons_append, List.append_eq] at h3); have S3 := Lib.hid h3; clear h3 S2))
        refine (HM.out _).mono ?_
        rintro e _ ⟨rfl, rfl⟩
        go_wp2_with (first
          | ((with_reducible refine at_slot (N := 50) rfl ?_); refine bslice_st rfl _ 5 1 _ (Mm.row .u8 [y]) rfl (fun _ => by kernel_rfl) S3.out ?_; intro sb1 w4 h4; (try simp only [World.size_alloc, List.nil_append, List.cons_append, List.append_eq] at h4); have S4 := Lib.hid h4; clear h4 S3)
          | ((with_reducible refine at_slot (N := 51) rfl ?_); refine append_bytes (G := GW) (N := GS ++ GD') rfl _ _ rfl (.slice AW k cW) (WL.take k) rfl ((S4.out.drop (List.sublist_cons_self _ _)).perm (by have := List.perm_append_comm (l₁ := GD') (l₂ := GW ++ GS); simpa only [List.append_assoc] using this)) HGW.out (some ⟨sb1, 0, none⟩) 1 1 [y] rfl rfl (S4.out.rd mem0) (fun y hy => by rw [List.mem_singleton.1 hy]; omega) (by rw [HLW.out]; show k + 1 ≤ _; omega) ?_; intro v9 w5 GW' h5 hg hz; obtain ⟨AW', cW', rfl⟩ := hg.shape; have ez : (WL.take k ++ [y]).length = k + 1 := (by rw [List.length_append, HLW.out]; rfl); rw [ez] at hg ⊢; have HGW' := Lib.hid hg; clear hg hz ez; (try simp only [World.size_alloc, List.nil_append, List.cons_append, List.append_eq] at h5); have S5 := Lib.hid h5; clear h5 S4))
        refine (HM.out _).mono ?_
        rintro e _ ⟨rfl, rfl⟩
        go_wp2_with (first
          | ((with_reducible refine at_slot (N := 58) rfl ?_); refine bslice_st rfl _ 5 1 _ (Mm.row .u8 [o ^^^ y]) rfl (fun _ => by kernel_rfl) S5.out ?_; intro sb2 w6 h6; (try simp only [World.size_alloc, List.nil_append, List.cons_append, List.append_eq] at h6); have S6 := Lib.hid h6; clear h6 S5)
          | ((with_reducible refine at_slot (N := 59) rfl ?_); refine append_bytes (G := GS) (N := GD' ++ GW') rfl _ _ rfl (.slice AS k cS) (SL.take k) rfl ((S6.out.drop (List.sublist_cons_self _ _)).perm (by have := List.perm_append_comm (l₁ := GW') (l₂ := GS ++ GD'); simpa only [List.append_assoc] using this)) HGS.out (some ⟨sb2, 0, none⟩) 1 1 [o ^^^ y] rfl rfl (S6.out.rd mem0) (fun y hy => by rw [List.mem_singleton.1 hy]; omega) (by rw [HLS.out]; show k + 1 ≤ _; omega) ?_; intro v9 w7 GS' h7 hg hz; obtain ⟨AS', cS', rfl⟩ := hg.shape; have ez : (SL.take k ++ [o ^^^ y]).length = k + 1 := (by rw [List.length_append, HLS.out]; rfl); rw [ez] at hg ⊢; have HGS' := Lib.hid hg; clear hg hz ez; (try simp only [World.size_alloc, List.nil_append, List.cons_append, List.append_eq] at h7); have S7 := Lib.hid h7; clear h7 S6))
        have S9 := Lib.hid (S7.out.perm (by have := List.perm_append_comm (l₁ := GS') (l₂ := GD' ++ GW'); simpa only [List.append_assoc] using this))
        refine ⟨⟨k + 1, AD', AW', AS', cD', cW', cS', GD', GW', GS', by omega, by simp, rfl, rfl, rfl, by rw [HTD.out]; exact HGD'.out, by rw [HTW.out]; exact HGW'.out, by rw [HTS.out]; exact HGS'.out, by omega, by omega, by omega, S9.out⟩, by simp [intOf]; omega⟩
      · have d3 : decide ((k : Int) < (n2 : Int)) = false := by simp; omega
        have d3' : decide (k < n2) = false := by simp; omega
        have HOV := HOV2.out k hko
        rw [HOV] at hov hsx e3
        have HTD2 := HTD.out; have HTS2 := HTS.out
        rw [HOV] at HTD2 HTS2
        clear HTD HTS HOV
        have HTD := Lib.hid HTD2; have HTS := Lib.hid HTS2
        clear HTD2 HTS2
        have e4 : Go.bits .xor .u8 ((k : Int) % 256) (y : Int) = ((k % 256 ^^^ y : Nat) : Int) := by
          have := e3
          rwa [show ((k % 256 : Nat) : Int) = (k : Int) % 256 by omega] at this
        clear e3
        go_wp2_with (first
          | ((with_reducible refine at_slot (N := 44) rfl ?_); refine bslice_st rfl _ 5 1 _ (Mm.row .u8 [(k % 256)]) rfl (fun _ => by kernel_rfl) S1.out ?_; intro sb0 w2 h2; (try simp only [World.size_alloc, List.nil_append, List.cons_append, List.append_eq] at h2); have S2 := Lib.hid h2; clear h2 S1)
          | ((with_reducible refine at_slot (N := 45) rfl ?_); refine append_bytes (G := GD) (N := GW ++ GS) rfl _ _ rfl (.slice AD k cD) (DL.take k) rfl ((S2.out.drop (List.sublist_cons_self _ _)).perm (List.Perm.refl _)) HGD.out (some ⟨sb0, 0, none⟩) 1 1 [(k % 256)] rfl rfl (S2.out.rd mem0) (fun y hy => by rw [List.mem_singleton.1 hy]; omega) (by rw [HLD.out]; show k + 1 ≤ _; omega) ?_; intro v9 w3 GD' h3 hg hz; obtain ⟨AD', cD', rfl⟩ := hg.shape; have ez : (DL.take k ++ [(k % 256)]).length = k + 1 := (by rw [List.length_append, HLD.out]; rfl); rw [ez] at hg ⊢; have HGD' := Lib.hid hg; clear hg hz ez; (try simp only [World.size_alloc, List.nil_append, List.cons_append, List.append_eq] at h3); have S3 := Lib.hid h3; clear h3 S2))
        refine (HM.out _).mono ?_
        rintro e _ ⟨rfl, rfl⟩
        go_wp2_with (first
          | ((with_reducible refine at_slot (N := 50) rfl ?_); refine bslice_st rfl _ 5 1 _ (Mm.row .u8 [y]) rfl (fun _ => by kernel_rfl) S3.out ?_; intro sb1 w4 h4; (try simp only [World.size_alloc, List.nil_append, List.cons_append, List.append_eq] at h4); have S4 := Lib.hid h4; clear h4 S3)
          | ((with_reducible refine at_slot (N := 51) rfl ?_); refine append_bytes (G := GW) (N := GS ++ GD') rfl _ _ rfl (.slice AW k cW) (WL.take k) rfl ((S4.out.drop (List.sublist_cons_self _ _)).perm (by have := List.perm_append_comm (l₁ := GD') (l₂ := GW ++ GS); simpa only [List.append_assoc] using this)) HGW.out (some ⟨sb1, 0, none⟩) 1 1 [y] rfl rfl (S4.out.rd mem0) (fun y hy => by rw [List.mem_singleton.1 hy]; omega) (by rw [HLW.out]; show k + 1 ≤ _; omega) ?_; intro v9 w5 GW' h5 hg hz; obtain ⟨AW', cW', rfl⟩ := hg.shape; have ez : (WL.take k ++ [y]).length = k + 1 := (by rw [List.length_append, HLW.out]; rfl); rw [ez] at hg ⊢; have HGW' := Lib.hid hg; clear hg hz ez; (try simp only [World.size_alloc, List.nil_append, List.cons_append, List.append_eq] at h5); have S5 := Lib.hid h5; clear h5 S4))
        refine (HM.out _).mono ?_
        rintro e _ ⟨rfl, rfl⟩
        go_wp2_with (first
          | ((with_reducible refine at_slot (N := 58) rfl ?_); refine bslice_st rfl _ 5 1 _ (Mm.row .u8 [(k % 256) ^^^ y]) rfl (fun _ => by kernel_rfl) S5.out ?_; intro sb2 w6 h6; (try simp only [World.size_alloc, List.nil_append, List.cons_append, List.append_eq] at h6); have S6 := Lib.hid h6; clear h6 S5)
          | ((with_reducible refine at_slot (N := 59) rfl ?_); refine append_bytes (G := GS) (N := GD' ++ GW') rfl _ _ rfl (.slice AS k cS) (SL.take k) rfl ((S6.out.drop (List.sublist_cons_self _ _)).perm (by have := List.perm_append_comm (l₁ := GW') (l₂ := GS ++ GD'); simpa only [List.append_assoc] using this)) HGS.out (some ⟨sb2, 0, none⟩) 1 1 [(k % 256) ^^^ y] rfl rfl (S6.out.rd mem0) (fun y hy => by rw [List.mem_singleton.1 hy]; omega) (by rw [HLS.out]; show k + 1 ≤ _; omega) ?_; intro v9 w7 GS' h7 hg hz; obtain ⟨AS', cS', rfl⟩ := hg.shape; have ez : (SL.take k ++ [(k % 256) ^^^ y]).length = k + 1 := (by rw [List.length_append, HLS.out]; rfl); rw [ez] at hg ⊢; have HGS' := Lib.hid hg; clear hg hz ez; (try simp only [World.size_alloc, List.nil_append, List.cons_append, List.append_eq] at h7); have S7 := Lib.hid h7; clear h7 S6))
        have S9 := Lib.hid (S7.out.perm (by have := List.perm_append_comm (l₁ := GS') (l₂ := GD' ++ GW'); simpa only [List.append_assoc] using this))
        refine ⟨⟨k + 1, AD', AW', AS', cD', cW', cS', GD', GW', GS', by omega, by simp, rfl, rfl, rfl, by rw [HTD.out]; exact HGD'.out, by rw [HTW.out]; exact HGW'.out, by rw [HTS.out]; exact HGS'.out, by omega, by omega, by omega, S9.out⟩, by simp [intOf]; omega⟩
    · have ekn : k = n := by omega
      subst ekn
      have e1 : DL.take k = DL := List.take_of_length_le (by rw [LD.out]; exact Nat.le_refl _)
      have e2 : WL.take k = WL := List.take_of_length_le (by rw [LW.out]; exact Nat.le_refl _)
      have e3 : SL.take k = SL := List.take_of_length_le (by rw [LS.out]; exact Nat.le_refl _)
      rw [e1] at HGD; rw [e2] at HGW; rw [e3] at HGS
      clear e1 e2 e3 HDT HWT HST HOV1 HOV2 HO HOVV HDL
      obtain ⟨NX, HNX⟩ : ∃ X, Hid (GD ++ (GW ++ GS) = X) := ⟨_, Lib.hid rfl⟩
      rw [HNX.out] at S1
      have HMD : Hid (∀ e ∈ GD, e ∈ NX) := Lib.hid (fun e he => by rw [← HNX.out]; simp [he])
      have HMW : Hid (∀ e ∈ GW, e ∈ NX) := Lib.hid (fun e he => by rw [← HNX.out]; simp [he])
      have HMS : Hid (∀ e ∈ GS, e ∈ NX) := Lib.hid (fun e he => by rw [← HNX.out]; simp [he])
      clear HNX
      have d0 : decide ((k : Int) < (k : Int)) = false := by simp
      go_wp2_with fail
      refine (Tk.new_st _).mono ?_
      rintro e w2 ⟨kb, rfl, hh⟩
      have h2 := S1.out.call hh; clear hh S1
      try simp only [List.nil_append, List.cons_append, List.append_eq, Int.toNat_natCast] at h2
      have S2 := Lib.hid h2; clear h2
      go_wp2_with fail
      refine (L6.new_st _).mono ?_
      rintro e w3 ⟨x2, rfl, hh⟩
      have h3 := S2.out.call hh; clear hh S2
      try simp only [List.nil_append, List.cons_append, List.append_eq, Int.toNat_natCast] at h3
      have S3 := Lib.hid h3; clear h3
      go_wp2_with fail
      refine (Sl.new_st _).mono ?_
      rintro e w4 ⟨x3, rfl, hh⟩
      have h4 := S3.out.call hh; clear hh S3
      try simp only [List.nil_append, List.cons_append, List.append_eq, Int.toNat_natCast] at h4
      have S4 := Lib.hid h4; clear h4
      go_wp2_with fail
      refine (clone_st LD.out u1 BD.out (HGD.out.read S4.out (fun e he => by simp [HMD.out e he]))).mono ?_
      rintro e w5 ⟨a, Da, rfl, h9, hh⟩
      have h5 := S4.out.call hh; clear hh S4
      try simp only [List.nil_append, List.cons_append, List.append_eq, Int.toNat_natCast] at h5
      have HA := Lib.hid h9; clear h9
      have S5 := Lib.hid h5; clear h5
      go_wp2_with fail
      refine (clone_st LD.out u1 BD.out (HGD.out.read S5.out (fun e he => by simp [HMD.out e he]))).mono ?_
      rintro e w6 ⟨b, Db, rfl, h9, hh⟩
      have h6 := S5.out.call hh; clear hh S5
      try simp only [List.nil_append, List.cons_append, List.append_eq, Int.toNat_natCast] at h6
      have HB := Lib.hid h9; clear h9
      have S6 := Lib.hid h6; clear h6
      go_wp2_with fail
      refine (clone_st LD.out u1 BD.out (HGD.out.read S6.out (fun e he => by simp [HMD.out e he]))).mono ?_
      rintro e w7 ⟨d, Dd, rfl, h9, hh⟩
      have h7 := S6.out.call hh; clear hh S6
      try simp only [List.nil_append, List.cons_append, List.append_eq, Int.toNat_natCast] at h7
      have HD := Lib.hid h9; clear h9
      have S7 := Lib.hid h7; clear h7
      go_wp2_with (first
        | ((with_reducible refine at_slot (N := 70) rfl ?_); refine bslice_st rfl _ 5 1 _ (Mm.row .u8 [0]) rfl (fun _ => by kernel_rfl) S7.out ?_; intro g w8 h8; (try simp only [World.size_alloc, List.nil_append, List.cons_append, List.append_eq] at h8); have S8 := Lib.hid h8; clear h8 S7)
        | ((with_reducible refine at_slot (N := 73) rfl ?_); refine bslice_st rfl _ 5 1 _ (Mm.row .u8 [128]) rfl (fun _ => by kernel_rfl) S8.out ?_; intro g2 w9 h9; (try simp only [World.size_alloc, List.nil_append, List.cons_append, List.append_eq] at h9); have S9 := Lib.hid h9; clear h9 S8))
      refine (tmul (c := 2) (d := [0]) (D := [0]) (l := [128]) (by decide) (S9.out.blk (by simp : Tk.tk kb ∈ _)) (S9.out.blk (by simp : bt g [0] ∈ _)) ⟨by decide, by decide, (fun y hy => by rw [List.mem_singleton.1 hy]; decide), rfl⟩ (S9.out.rd mem0) rfl (fun y hy => by rw [List.mem_singleton.1 hy]; decide) (S9.out.ne 0 1 rfl rfl (by decide)) (S9.out.ne 5 1 rfl rfl (by decide)) (by decide)).mono ?_
      rintro e w10 ⟨rfl, hh⟩
      have h10 := S9.out.callN (N1 := [_]) hh; clear hh S9
      try simp only [List.nil_append, List.cons_append, List.append_eq, Int.toNat_natCast] at h10
      rw [show Wr.wr [0] 0 ([128].map (gm 2)) = [29] from by decide +kernel] at h10; replace h10 := h10.drop (List.sublist_cons_self _ _); have yg := (h10.blk mem0).cell (v := Value.int .u8 29) (i := 0) rfl
      have S10 := Lib.hid h10; clear h10
      go_wp2_with fail
      refine (clone_st L1.out u1 B1.out (S10.out.ext R1.out)).mono ?_
      rintro e w11 ⟨s1, E1, rfl, h9, hh⟩
      have h11 := S10.out.call hh; clear hh S10
      try simp only [List.nil_append, List.cons_append, List.append_eq, Int.toNat_natCast] at h11
      have HE := Lib.hid h9; clear h9
      have S11 := Lib.hid h11; clear h11
      clear yg
      go_wp2_with fail
      refine (tadd (cd := Da.length) hc (S11.out.blk (by simp : Tk.tk kb ∈ _)) (S11.out.blk (by simp : bt a Da ∈ _)) HA.out LD.out (HE.out.rd S11.out mem0) L1.out B1.out (S11.out.ne 0 4 rfl rfl (by decide)) (S11.out.ne 5 4 rfl rfl (by decide)) u1).mono ?_
      rintro e w12 ⟨rfl, hh⟩
      have h12 := S11.out.callN (N1 := [_, _, _, _]) hh; clear hh S11
      try simp only [List.nil_append, List.cons_append, List.append_eq, Int.toNat_natCast] at h12
      rw [HWL.out, HSL.out] at h12; replace h12 := h12.drop (List.sublist_cons_self _ _)
      have S12 := Lib.hid h12; clear h12
      clear HE
      go_wp2_with fail
      refine (clone_st L1.out u1 B1.out (S12.out.ext R1.out)).mono ?_
      rintro e w13 ⟨s2, E2, rfl, h9, hh⟩
      have h13 := S12.out.call hh; clear hh S12
      try simp only [List.nil_append, List.cons_append, List.append_eq, Int.toNat_natCast] at h13
      have HE := Lib.hid h9; clear h9
      have S13 := Lib.hid h13; clear h13
      go_wp2_with fail
      refine (nadd (cd := Db.length) hc (S13.out.blk (by simp : bt b Db ∈ _)) HB.out LD.out (HE.out.rd S13.out mem0) L1.out B1.out (S13.out.ne 0 3 rfl rfl (by decide)) u1).mono ?_
      rintro e w14 ⟨rfl, hh⟩
      have h14 := S13.out.callN (N1 := [_, _, _]) hh; clear hh S13
      try simp only [List.nil_append, List.cons_append, List.append_eq, Int.toNat_natCast] at h14
      rw [HWL.out, HSL.out] at h14; replace h14 := h14.drop (List.sublist_cons_self _ _)
      have S14 := Lib.hid h14; clear h14
      clear HE
      go_wp2_with fail
      refine (clone_st L1.out u1 B1.out (S14.out.ext R1.out)).mono ?_
      rintro e w15 ⟨s3, E3, rfl, h9, hh⟩
      have h15 := S14.out.call hh; clear hh S14
      try simp only [List.nil_append, List.cons_append, List.append_eq, Int.toNat_natCast] at h15
      have HE := Lib.hid h9; clear h9
      have S15 := Lib.hid h15; clear h15
      go_wp2_with fail
      refine (sadd9 (cd := Dd.length) hc (S15.out.blk (by simp : bt d Dd ∈ _)) HD.out LD.out (HE.out.rd S15.out mem0) L1.out B1.out (S15.out.ne 0 2 rfl rfl (by decide)) HD.out.1 HE.out.1 u1).mono ?_
      rintro e w16 ⟨rfl, hh⟩
      have h16 := S15.out.callN (N1 := [_, _]) hh; clear hh S15
      try simp only [List.nil_append, List.cons_append, List.append_eq, Int.toNat_natCast] at h16
      rw [HWL.out, HSL.out] at h16; replace h16 := h16.drop (List.sublist_cons_self _ _)
      have S16 := Lib.hid h16; clear h16
      clear HE
      have HA2 := Lib.hid (HA.out.wr LS.out BS.out); have HB2 := Lib.hid (HB.out.wr LS.out BS.out); have HD2 := Lib.hid (HD.out.wr LS.out BS.out)
      generalize Wr.wr Da 0 SL = Da2 at *
      generalize Wr.wr Db 0 SL = Db2 at *
      generalize Wr.wr Dd 0 SL = Dd2 at *
      have cva := cv_some (c := Da.length) LS.out (HA2.out.rd S16.out (by simp : bt a Da2 ∈ _))
      have cvb := cv_some (c := Db.length) LS.out (HB2.out.rd S16.out (by simp : bt b Db2 ∈ _))
      have cvd := cv_some (c := Dd.length) LS.out (HD2.out.rd S16.out (by simp : bt d Dd2 ∈ _))
      have cvs := cv_grow LS.out HGS.out HZS.out S16.out (fun e he => by simp [HMS.out e he])
      go_wp2_with fail
      refine (clone_st L1.out u1 B1.out (S16.out.ext R1.out)).mono ?_
      rintro e w17 ⟨s4, E4, rfl, h9, hh⟩
      have h17 := S16.out.call hh; clear hh S16
      try simp only [List.nil_append, List.cons_append, List.append_eq, Int.toNat_natCast] at h17
      have HE := Lib.hid h9; clear h9
      have S17 := Lib.hid h17; clear h17
      clear cva cvb cvd cvs
      go_wp2_with fail
      refine (tmul (cd := Da.length) hc (S17.out.blk (by simp : Tk.tk kb ∈ _)) (S17.out.blk (by simp : bt a Da2 ∈ _)) HA2.out (HE.out.rd S17.out mem0) L1.out B1.out (S17.out.ne 0 4 rfl rfl (by decide)) (S17.out.ne 5 4 rfl rfl (by decide)) u1).mono ?_
      rintro e w18 ⟨rfl, hh⟩
      have h18 := S17.out.callN (N1 := [_, _, _, _]) hh; clear hh S17
      try simp only [List.nil_append, List.cons_append, List.append_eq, Int.toNat_natCast] at h18
      rw [HWL.out] at h18; replace h18 := h18.drop (List.sublist_cons_self _ _)
      have S18 := Lib.hid h18; clear h18
      clear HE
      go_wp2_with fail
      refine (clone_st L1.out u1 B1.out (S18.out.ext R1.out)).mono ?_
      rintro e w19 ⟨s5, E5, rfl, h9, hh⟩
      have h19 := S18.out.call hh; clear hh S18
      try simp only [List.nil_append, List.cons_append, List.append_eq, Int.toNat_natCast] at h19
      have HE := Lib.hid h9; clear h9
      have S19 := Lib.hid h19; clear h19
      go_wp2_with fail
      refine (nmul (cd := Db.length) hc (S19.out.blk (by simp : bt b Db2 ∈ _)) HB2.out (HE.out.rd S19.out mem0) L1.out B1.out (S19.out.ne 0 3 rfl rfl (by decide)) u1).mono ?_
      rintro e w20 ⟨rfl, hh⟩
      have h20 := S19.out.callN (N1 := [_, _, _]) hh; clear hh S19
      try simp only [List.nil_append, List.cons_append, List.append_eq, Int.toNat_natCast] at h20
      rw [HWL.out] at h20; replace h20 := h20.drop (List.sublist_cons_self _ _)
      have S20 := Lib.hid h20; clear h20
      clear HE
      go_wp2_with fail
      refine (clone_st L1.out u1 B1.out (S20.out.ext R1.out)).mono ?_
      rintro e w21 ⟨s6, E6, rfl, h9, hh⟩
      have h21 := S20.out.call hh; clear hh S20
      try simp only [List.nil_append, List.cons_append, List.append_eq, Int.toNat_natCast] at h21
      have HE := Lib.hid h9; clear h9
      have S21 := Lib.hid h21; clear h21
      go_wp2_with fail
      refine (smul9 (cd := Dd.length) hc (S21.out.blk (by simp : bt d Dd2 ∈ _)) HD2.out (HE.out.rd S21.out mem0) L1.out B1.out (S21.out.ne 0 2 rfl rfl (by decide)) HD.out.1 HE.out.1 u1).mono ?_
      rintro e w22 ⟨rfl, hh⟩
      have h22 := S21.out.callN (N1 := [_, _]) hh; clear hh S21
      try simp only [List.nil_append, List.cons_append, List.append_eq, Int.toNat_natCast] at h22
      rw [HWL.out] at h22; replace h22 := h22.drop (List.sublist_cons_self _ _)
      have S22 := Lib.hid h22; clear h22
      clear HE
      have HA3 := Lib.hid (HA2.out.wr LW.out BW.out); have HB3 := Lib.hid (HB2.out.wr LW.out BW.out); have HD3 := Lib.hid (HD2.out.wr LW.out BW.out)
      generalize Wr.wr Da2 0 WL = Da3 at *
      generalize Wr.wr Db2 0 WL = Db3 at *
      generalize Wr.wr Dd2 0 WL = Dd3 at *
      have cva := cv_some (c := Da.length) LW.out (HA3.out.rd S22.out (by simp : bt a Da3 ∈ _))
      have cvb := cv_some (c := Db.length) LW.out (HB3.out.rd S22.out (by simp : bt b Db3 ∈ _))
      have cvd := cv_some (c := Dd.length) LW.out (HD3.out.rd S22.out (by simp : bt d Dd3 ∈ _))
      have cvw := cv_grow LW.out HGW.out HZW.out S22.out (fun e he => by simp [HMW.out e he])
      go_wp2_with fail
      clear cva cvb cvd cvw
      have S30 : Hid (St w w22 [] NX) := Lib.hid (S22.out.drop (.cons _ (.cons _ (.cons _ (.cons _ (.cons _ (List.Sublist.refl _)))))))
      clear S22 HA3 HB3 HD3 HA2 HB2 HD2 HA HB HD d0 hlt hk
      go_loopw [20] (fun vj wq => ∃ j : Nat, j ≤ 3 ∧ vj = .int .i64 j ∧ St w wq [] NX) (fun vj _ => 3 - (intOf vj).toNat)
      case atStart => exact ⟨0, by omega, rfl, S30.out⟩
      case round =>
        clear S30
        obtain ⟨j, hj, rfl, hs⟩ := hrel
        have S31 := Lib.hid hs; clear hs
        by_cases hj3 : j < 3
        · have j1 : (j : Int) < 3 := by omega
          go_wp2_with fail
          refine (new9_set hj3 _).mono ?_
          rintro e w32 ⟨p, S, rfl, h9, hh⟩
          have h32 := S31.out.call hh; clear hh S31
          try simp only [List.nil_append, List.cons_append, List.append_eq, Int.toNat_natCast] at h32
          have SE := Lib.hid h9; clear h9
          have S32 := Lib.hid h32; clear h32
          go_wp2_with fail
          refine (clone_st LD.out u1 BD.out (HGD.out.read S32.out (fun e he => by simp [HMD.out e he]))).mono ?_
          rintro e w33 ⟨x, Dx, rfl, h9, hh⟩
          have h33 := S32.out.call hh; clear hh S32
          try simp only [List.nil_append, List.cons_append, List.append_eq, Int.toNat_natCast] at h33
          have HX := Lib.hid h9; clear h9
          have S33 := Lib.hid h33; clear h33
          go_wp2_with fail
          refine (clone_st LD.out u1 BD.out (HGD.out.read S33.out (fun e he => by simp [HMD.out e he]))).mono ?_
          rintro e w34 ⟨y, Dy, rfl, h9, hh⟩
          have h34 := S33.out.call hh; clear hh S33
          try simp only [List.nil_append, List.cons_append, List.append_eq, Int.toNat_natCast] at h34
          have HY := Lib.hid h9; clear h9
          have S34 := Lib.hid h34; clear h34
          go_wp2_with fail
          refine (clone_st L1.out u1 B1.out (S34.out.ext R1.out)).mono ?_
          rintro e w35 ⟨t1, F1, rfl, h9, hh⟩
          have h35 := S34.out.call hh; clear hh S34
          try simp only [List.nil_append, List.cons_append, List.append_eq, Int.toNat_natCast] at h35
          have HE := Lib.hid h9; clear h9
          have S35 := Lib.hid h35; clear h35
          go_wp2_with fail
          refine (ksadd (cd := Dx.length) SE.out (There.of S35.out (fun e he => by simp [he])) (fun e he => (St.apart (A := [bt t1 F1, bt y Dy, bt x Dx]) (B := S ++ NX) S35.out (e := bt x Dx) (e' := e) (by simp) (by simp [he])).symm) hc (S35.out.blk (by simp : bt x Dx ∈ _)) HX.out LD.out (HE.out.rd S35.out mem0) L1.out B1.out (S35.out.ne 0 2 rfl rfl (by decide)) HX.out.1 HE.out.1 u1).mono ?_
          rintro e w36 ⟨rfl, hh⟩
          have h36 := S35.out.callN (N1 := [_, _]) hh; clear hh S35
          try simp only [List.nil_append, List.cons_append, List.append_eq, Int.toNat_natCast] at h36
          rw [HWL.out, HSL.out] at h36; replace h36 := h36.drop (List.sublist_cons_self _ _)
          have S36 := Lib.hid h36; clear h36
          clear HE
          have HX2 := Lib.hid (HX.out.wr LS.out BS.out)
          generalize Wr.wr Dx 0 SL = Dx2 at *
          go_wp2_with ((with_reducible refine at_slot (N := 197) rfl ?_); refine bslice_stg rfl _ 5 1 _ (Mm.row .u8 [c]) rfl (fun _ => by kernel_rfl) S36.out ?_; intro rb w37 h37; (try simp only [World.size_alloc, List.nil_append, List.cons_append, List.append_eq] at h37); have S37 := Lib.hid h37; clear h37 S36)
          refine (clone_st L1.out u1 B1.out (S37.out.ext R1.out)).mono ?_
          rintro e w38 ⟨t2, F2, rfl, h9, hh⟩
          have h38 := S37.out.call hh; clear hh S37
          try simp only [List.nil_append, List.cons_append, List.append_eq, Int.toNat_natCast] at h38
          have HE := Lib.hid h9; clear h9
          have S38 := Lib.hid h38; clear h38
          go_wp2_with ((with_reducible refine at_slot (N := 200) rfl ?_); refine bslice_stg rfl _ 22 1 _ (cellsV es [⟨some ⟨t2, 0, none⟩, k, F2.length⟩]) rfl (fun _ => by kernel_rfl) S38.out ?_; intro hb w39 h39; (try simp only [World.size_alloc, List.nil_append, List.cons_append, List.append_eq] at h39); have S39 := Lib.hid h39; clear h39 S38)
          refine (dot_ok (bd := y) (od := 0) (cd := Dy.length) (kc := 1) (mc := 1) (row := [c]) (srcs := [src]) SE.out (There.of S39.out (fun e he => by simp [he])) (fun e he => (St.apart (A := [⟨hb, 22, cellsV es [⟨some ⟨t2, 0, none⟩, k, F2.length⟩]⟩, bt t2 F2, bt rb [c], bt y Dy, bt x Dx2]) (B := S ++ NX) S39.out (e := bt y Dy) (e' := e) (by simp) (by simp [he])).symm) (S39.out.blk (by simp : bt y Dy ∈ _)) (by have := HY.out.1; omega) HY.out.2.2.1 HY.out.1 rfl (S39.out.rd (by simp : bt rb [c] ∈ _)) (off_ne (S39.out.ne 2 3 rfl rfl (by decide))) (fun z hz => by rw [List.mem_singleton.1 hz]; exact hc) rfl ⟨by simp, fun z hz => by rw [List.mem_singleton.1 hz, L1.out]; exact u1⟩ (rdL_one (S39.out.rdV (t := 22) mem0) L1.out HE.out.1 (HE.out.rd S39.out (by simp : bt t2 F2 ∈ _)) (by simpa using S39.out.ne 0 3 rfl rfl (by decide)) (by simpa using S39.out.ne 1 3 rfl rfl (by decide))) (fun z hz => by rw [List.mem_singleton.1 hz]; exact B1.out) u1 ⟨rfl, fun z hz => by rw [List.mem_singleton.1 hz, L1.out]⟩).mono ?_
          rintro e w40 ⟨rfl, hh⟩
          have h40 := S39.out.callN (N1 := [_, _, _]) hh; clear hh S39
          try simp only [List.nil_append, List.cons_append, List.append_eq, Int.toNat_natCast] at h40
          rw [sum_single L1.out, HWL.out] at h40
          have S40 := Lib.hid h40; clear h40
          have HY2 := Lib.hid (HY.out.wr LW.out BW.out)
          generalize Wr.wr Dy 0 WL = Dy2 at *
          have cvx := cv_some (c := Dx.length) LS.out (HX2.out.rd S40.out (by simp : bt x Dx2 ∈ _))
          have cvy := cv_some (c := Dy.length) LW.out (HY2.out.rd S40.out (by simp : bt y Dy2 ∈ _))
          have cvs := cv_grow LS.out HGS.out HZS.out S40.out (fun e he => by simp [HMS.out e he])
          have cvw := cv_grow LW.out HGW.out HZW.out S40.out (fun e he => by simp [HMW.out e he])
          go_wp2_with fail
          clear cvx cvy cvs cvw
          refine ⟨⟨j + 1, by omega, by simp, S40.out.drop (.cons _ (.cons _ (.cons _ (.cons _ (.cons _ (List.sublist_append_right _ _))))))⟩, ?_⟩
          simp [intOf]; omega
        · obtain rfl : j = 3 := by omega
          go_wp2_with fail
          go_ret
          exact ⟨rfl, S31.out.nil⟩

end Go.Proofs.Ytdlmkhlkgklkaaa.Sk
