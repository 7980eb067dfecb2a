/- Layer 9: fits. -/
import Derived.Test.YtdbfkjhdnbmpeaaSk
import Derived.Test.YtdbfkjhdnbmpeaaQt

namespace Go.Proofs.Ytdbfkjhdnbmpeaa.Sk
set_option linter.unusedSimpArgs false
set_option linter.unusedVariables false
open Go Go.RowKit Go.Proofs.Ytdbfkjhdnbmpeaa Go.Proofs.Ytdbfkjhdnbmpeaa.Mm Go.Proofs.Ytdbfkjhdnbmpeaa.Gf Go.Proofs.Ytdbfkjhdnbmpeaa.Wr Go.Proofs.Ytdbfkjhdnbmpeaa.Tb Go.Proofs.Ytdbfkjhdnbmpeaa.St

/-- The sum of the first i products at the place t. -/
def smk (row : List Nat) (srcs : List (List Nat)) (t : Nat) : Nat → Nat
  | 0 => 0
  | i + 1 => smk row srcs t i ^^^ gm (row.getD i 0) ((srcs.getD i []).getD t 0)
/-- .. of all of them, n places from f on. -/
def sumK (row : List Nat) (srcs : List (List Nat)) (f n i : Nat) : List Nat := (List.range n).map fun t => smk row srcs (f + t) i
def sumL (row : List Nat) (srcs : List (List Nat)) (f n : Nat) : List Nat := sumK row srcs f n row.length
theorem sumK_length (row : List Nat) (srcs : List (List Nat)) (f n i : Nat) : (sumK row srcs f n i).length = n := by simp [sumK]
theorem sumL_length (row : List Nat) (srcs : List (List Nat)) (f n : Nat) : (sumL row srcs f n).length = n := sumK_length _ _ _ _ _
theorem sumK_get {row : List Nat} {srcs : List (List Nat)} {f n i t : Nat} (h : t < n) : (sumK row srcs f n i).getD t 0 = smk row srcs (f + t) i := by simp [sumK, h]
theorem sumK_zero (row : List Nat) (srcs : List (List Nat)) (f n : Nat) : sumK row srcs f n 0 = List.replicate n 0 := by
  apply List.ext_getElem?
  intro t
  by_cases h : t < n <;> simp [sumK, smk, h]
theorem smk_lt {row : List Nat} {srcs : List (List Nat)} {t : Nat} (h8 : B8 row) : ∀ i, i ≤ row.length → smk row srcs t i < 256
  | 0, _ => by simp [smk]
  | i + 1, h => Nat.xor_lt_two_pow (n := 8) (smk_lt h8 i (by omega)) (gm_lt _ (h8.get (by omega)))
theorem sumK_b8 {row : List Nat} {srcs : List (List Nat)} {f n i : Nat} (h8 : B8 row) (h : i ≤ row.length) : B8 (sumK row srcs f n i) := by
  intro x hx
  obtain ⟨t, _, rfl⟩ := List.mem_map.1 hx
  exact smk_lt h8 i h
theorem sumK_succ {row : List Nat} {srcs : List (List Nat)} {D : List Nat} {od f n i : Nat} (ho : od + n ≤ D.length) (hs : f + n ≤ (srcs.getD i []).length) :
    Wr.wr (Wr.wr D od (sumK row srcs f n i)) od ((List.range n).map fun t => (Wr.wr D od (sumK row srcs f n i)).getD (od + t) 0 ^^^ gm (row.getD i 0) ((((srcs.getD i []).drop f).take n).getD t 0)) = Wr.wr D od (sumK row srcs f n (i + 1)) := by
  apply List.ext_getElem?
  intro j
  have hl := sumK_length row srcs f n i
  have hl1 := sumK_length row srcs f n (i + 1)
  rw [wr_get _ _ _ _ (by rw [wr_length]; simpa using ho), wr_get (sumK row srcs f n (i + 1)) _ _ _ (by rw [hl1]; exact ho)]
  rw [List.length_map, List.length_range, hl1]
  by_cases hj : od ≤ j ∧ j < od + n
  · rw [if_pos hj, if_pos hj]
    obtain ⟨t, rfl⟩ : ∃ t, j = od + t := ⟨j - od, by omega⟩
    have ht : t < n := by omega
    rw [show od + t - od = t by omega]
    have e1 : (Wr.wr D od (sumK row srcs f n i)).getD (od + t) 0 = smk row srcs (f + t) i := by
      rw [List.getD_eq_getElem?_getD, wr_get _ _ _ _ (by rw [hl]; exact ho), if_pos (by rw [hl]; omega), show od + t - od = t by omega, ← List.getD_eq_getElem?_getD, sumK_get ht]
    have e2 : (((srcs.getD i []).drop f).take n).getD t 0 = (srcs.getD i []).getD (f + t) 0 := by
      rw [List.getD_eq_getElem?_getD, List.getElem?_take, if_pos ht, List.getElem?_drop, ← List.getD_eq_getElem?_getD]
    rw [List.getElem?_map, List.getElem?_range ht, Option.map_some, e1, e2]
    simp only [sumK, List.getElem?_map, List.getElem?_range ht, Option.map_some, smk]
  · rw [if_neg hj, if_neg hj, wr_get _ _ _ _ (by rw [hl]; exact ho), if_neg (by rw [hl]; exact hj)]

section
variable {w0 w : World} {W1 W2 N : List Ent} {ops : Array Oper} {rest : List Oper} {o : Oper} {a : Act} {Q : Exit → Act → World → Prop}
/-- clear of bytes that may be written. -/
theorem clear_law (hgd : o.guard = none) (x : Operand) (ho : o.op = .call { callee := .builtin .clear, args := #[x], argTypes := #[39] }) (bd od n c : Nat) (D : List Nat) (hx : a.eval x = .slice (some ⟨bd, od, none⟩) n c)
    (h : St w0 w (W1 ++ bt bd D :: W2) N) (hf : od + n ≤ D.length)
    (hK : ∀ w', St w0 w' (W1 ++ bt bd (Wr.wr D od (List.replicate n 0)) :: W2) N → wpList Try.prog ops Q rest (a.put o.dst (.tuple #[])) w') : wpList Try.prog ops Q (o :: rest) a w := by
  have hrun : ∃ w', (∀ ty, (Builtin.clear_ #[39] ty #[.slice (some ⟨bd, od, none⟩) n c]).run Try.prog w = .ok (.tuple #[]) w') ∧ St w0 w' (W1 ++ bt bd (Wr.wr D od (List.replicate n 0)) :: W2) N := by
    rcases Nat.eq_zero_or_pos n with rfl | hn
    · exact ⟨w, fun ty => by simp [Builtin.clear_, run_underlying Try.underlying39], h⟩
    · have hb := h.blkW (b := bd) (t := 5) (c := row .u8 D) (by simp)
      refine ⟨_, fun ty => Lib.run_clear_slice w 39 5 ty (.int .u8 0) Try.underlying39 (fun w => by kernel_rfl) rfl rfl bd od n c hn (fun j hj => ?_) (fun j hj => hb.free), h.zerosW n od D w⟩
      rw [hb.cellRow (i := od + j) (by omega)]; rfl
  obtain ⟨w', hr, hs⟩ := hrun
  refine ev hgd (v := .tuple #[]) (w1 := w') ?_ (hK _ hs)
  unfold execOp
  simp only [ho, resolve, invoke, builtin, Sem.run_bind, Sem.run_pure, Result.andThen_ok, List.map_toArray, List.map_cons, List.map_nil, hx, hr]
end

/-- A slice of a slice, in a region that draws its order. -/
theorem quiet_slice {P : Program} {ops : Array Oper} {C : World → Prop} {Q : Act → Prop} {a : Act} {o : Oper} {rest : List Oper} (hgd : o.guard = none) (t e : TypeId) (ht : P.underlying t = some (.slice e)) (hsz : (P.info? e).map (·.size) = some 1) (x lo hi : Operand) (ho : o.op = .slice t x (some lo) (some hi) none)
    (A : Option Addr) (len cap f n : Nat) (hx : a.eval x = .slice A len cap) (y z : Int) (hl : a.eval lo = .int .i64 y) (hy : y = (f : Int)) (hh : a.eval hi = .int .i64 z) (hz : z = ((f + n : Nat) : Int)) (hc : f + n ≤ cap)
    (hK : wpQuiet P ops C Q rest (a.put o.dst (.slice (cutA A cap f) n (cap - f)))) : wpQuiet P ops C Q (o :: rest) a := by
  subst hy hz
  refine wpQuiet_step fun K hk => ?_
  rw [if_pos (by simp [Region.wanted, hgd])]
  refine ⟨.slice (cutA A cap f) n (cap - f), fun w _ => ?_, hk _ hK⟩
  have e1 : (execOp a.eval o).run P w = .ok (.value (.slice (cutA A cap f) n (cap - f))) w := by
    unfold execOp
    simp only [ho, hx, Option.map_none, Option.map_some, hl, hh]
    have e1 : (Instr.sliceAt t (.slice A len cap) (some (.int .i64 (f : Nat))) (some (.int .i64 ((f + n : Nat) : Int))) none).run P w = .ok (.slice (cutA A cap f) n (cap - f)) w := by
      unfold Instr.sliceAt
      simp only [Sem.run_bind, run_underlying ht, Result.andThen_ok]
      exact run_cut t e ht hsz A len cap f n _ _ (.inr rfl) (.inr rfl) hc
    simp only [Sem.run_bind, e1, Result.andThen_ok, Sem.run_pure]
  unfold Oper.quietAt
  rw [e1]
  exact ⟨rfl, rfl⟩

set_option maxRecDepth 100000 in
set_option maxHeartbeats 2000000 in
theorem sum_at {p j : Nat} {S : List Ent} {Ar As : Option Addr} {k kc m mc bd od n cd f : Nat} {row : List Nat} {srcs : List (List Nat)} {D : List Nat} {w : World} (hS : SetE p j S) (hb : There w S) (hne : ∀ e ∈ S, e.b ≠ bd) (hd : Bytes w bd D) (ho : od + n ≤ D.length) (hD8 : B8 D) (hcd : n ≤ cd)
    (hk : row.length = k) (hr : Rd w Ar row) (hro : Off [bd] Ar) (hr8 : B8 row) (hm : srcs.length = m) (hkm : k ≤ m) (hs : RdL w [bd] As srcs) (hs8 : ∀ l ∈ srcs, B8 l ∧ f + n ≤ l.length ∧ l.length ≤ 140737488351232) (hn : n ≤ 140737488351232) (hf : f + n ≤ 140737488351232) (hk63 : k ≤ 140737488351232) :
    Calls Try.prog 34 #[.pointer (some ⟨p, 0, none⟩), .slice Ar k kc, .slice As m mc, .int .i64 (f : Int), .slice (some ⟨bd, od, none⟩) n cd] w fun e w' => e = .returned (.tuple #[]) ∧ St w w' [bt bd (Wr.wr D od (sumL row srcs f n))] [] := by
  obtain ⟨T, x, F, r, hSe, hK⟩ := hS.ker
  have HM := Lib.hid hK.meth; have HC := Lib.hid hK.call; have HK := Lib.hid hK
  have HB := Lib.hid hb; have HNE := Lib.hid hne; have HR := Lib.hid hr; have HRO := Lib.hid hro; have HR8 := Lib.hid hr8; have HKL := Lib.hid hk; have HML := Lib.hid hm; have HS := Lib.hid hs; have HS8 := Lib.hid hs8; have HD8 := Lib.hid hD8; have HO := Lib.hid ho
  have HP := Lib.hid (show (⟨p, 79, #[.iface T (.pointer (some x)), .int .i64 (j : Int)]⟩ : Ent) ∈ S by rw [hSe]; exact mem0)
  have S0 := Lib.hid (St.start1 hd)
  clear hS hb hne hd ho hD8 hk hr hro hr8 hm hs hs8 hSe hK
  go_enter Try.func34, Try.ntmps34
  go_wp2_with (skip; with_reducible refine clear_law (W1 := []) (W2 := []) rfl (.tmp 12) rfl bd od n cd D rfl S0.out HO.out ?_; intro w1 h1; (try simp only [World.size_alloc, List.nil_append, List.cons_append, List.append_eq] at h1); have S1 := Lib.hid h1; clear h1 S0)
  rw [← sumK_zero row srcs f n] at S1
  go_loopw [15] (fun vi wq => ∃ i : Nat, i ≤ k ∧ vi = .int .i64 i ∧ St w wq [bt bd (Wr.wr D od (sumK row srcs f n i))] []) (fun vi _ => k - (intOf vi).toNat)
  case atStart => exact ⟨0, by omega, rfl, S1.out⟩
  case round =>
    clear S1
    obtain ⟨i, hi, rfl, hs⟩ := hrel
    have S2 := Lib.hid hs; clear hs
    by_cases hlt : i < k
    · obtain ⟨br, orr, eA, kr⟩ := (S2.out.rdX HR.out HRO.out (by simp)) (by rw [HKL.out]; omega)
      have mr := kr i (by rw [HKL.out]; exact hlt)
      subst eA
      clear kr
      have hc := HR8.out.get (i := i) (by rw [HKL.out]; exact hlt)
      have hmem : srcs.getD i [] ∈ srcs := by
        rw [List.getD_eq_getElem?_getD, List.getElem?_eq_getElem (by rw [HML.out]; omega), Option.getD_some]; exact List.getElem_mem _
      obtain ⟨q1, q2, q3⟩ := HS8.out _ hmem
      obtain ⟨ba, oa, Bs, ks, eA, ms, hks, rs, os⟩ := (S2.out.rdLX HS.out (by simp)).at (i := i) (by rw [HML.out]; omega)
      subst eA
      have HX := Lib.hid (sumK_succ (row := row) (srcs := srcs) (D := D) (od := od) (f := f) (n := n) (i := i) HO.out q2)
      have HX8 := Lib.hid (wr_b8 (o := od) HD8.out (sumK_b8 (row := row) (srcs := srcs) (f := f) (n := n) (i := i) HR8.out (by rw [HKL.out]; omega)))
      generalize row.getD i 0 = c at *
      generalize srcs.getD i [] = l at *
      have m0 := ((HB.out.keep S2.out (fun e he x hx => by rw [List.mem_singleton] at hx; subst hx; exact fun h => HNE.out e he h.symm)) _ HP.out).cell (i := 0) rfl
      have RS := Lib.hid rs; have OS := Lib.hid os; have Q1 := Lib.hid q1; have Q2 := Lib.hid q2
      clear rs os q1 q2 hmem
      have i1 : (i : Int) < (k : Int) := by omega
      have i2 : (i : Int) < (m : Int) := by omega
      have i3 : i < m := by omega
      have f0 : (0 : Int) ≤ (f : Int) := by omega
      have f1 : (f : Int) + (n : Int) ≤ 140737488351232 := by omega
      have c0 : (0 : Int) ≤ (c : Int) := by omega
      have c1 : (c : Int) < 256 := by omega
      go_wp2_with fail
      refine Qt.quiet_tail 19 (by kernel_rfl) (by kernel_rfl) ?_
      simp only [List.take_succ_cons, List.take_zero, List.drop_succ_cons, List.drop_zero]
      iterate 16 (first | go_big_quiet_step (fail) | quiet_step (fail))
      refine quiet_slice rfl 39 5 Try.underlying39 (by kernel_rfl) _ _ _ rfl Bs l.length ks f n rfl _ _ rfl rfl rfl (by simp) (by have := Q2.out; omega) ?_
      iterate 2 (first | go_big_quiet_step (fail) | quiet_step (fail))
      refine wpQuiet_nil ?_
      rintro _ ⟨nq, rfl⟩
      have hm := HK.out.meth
      have hcf := HK.out.call
      clear mr ms m0
      go_wp2_with fail
      clear hm hcf
      refine (HK.out.add (c := (c : Int)) (bd := bd) (od := od) (n := n) (cd := cd) (D := Wr.wr D od (sumK row srcs f n i)) (l := (l.drop f).take n) (HB.out.keep (S2.out.drewN (n := nq)) (fun e he x hx => by rw [List.mem_singleton] at hx; subst hx; exact fun h => HNE.out e he h.symm)) HNE.out c0 c1 ((S2.out.drewN (n := nq)).blkW mem0) (by rw [wr_length]; exact HO.out) (by rw [List.length_take, List.length_drop]; have := Q2.out; omega) (Q1.out.piece f n) HX8.out hcd (by have := Q2.out; omega) (by omega) (.inl ⟨?_, OS.out.cut⟩)).mono ?_
      · have := Rd.cut RS.out ks f n hks
        exact this
      rintro e w3 ⟨rfl, hh⟩
      have h3 := (S2.out.drewN (n := nq)).callW (W1 := []) hh
      rw [Int.toNat_natCast, HX.out] at h3
      have S3 := Lib.hid h3
      clear hh h3 S2
      go_wp2_with fail
      refine ⟨⟨i + 1, by omega, by simp, S3.out⟩, ?_⟩
      simp [intOf]; omega
    · obtain rfl : i = k := by omega
      go_wp2_with fail
      go_end0
      refine ⟨rfl, ?_⟩
      have := S2.out
      unfold sumL
      rw [HKL.out]
      exact this

end Go.Proofs.Ytdbfkjhdnbmpeaa.Sk

namespace Go.Proofs.Ytdbfkjhdnbmpeaa.Sk
set_option linter.unusedSimpArgs false
set_option linter.unusedVariables false
open Go Go.RowKit Go.Proofs.Ytdbfkjhdnbmpeaa Go.Proofs.Ytdbfkjhdnbmpeaa.Mm Go.Proofs.Ytdbfkjhdnbmpeaa.Gf Go.Proofs.Ytdbfkjhdnbmpeaa.Wr Go.Proofs.Ytdbfkjhdnbmpeaa.Nb Go.Proofs.Ytdbfkjhdnbmpeaa.St

set_option maxRecDepth 100000 in
set_option maxHeartbeats 1000000 in
theorem copied_st {A : Option Addr} {m c : Nat} {l : List Nat} {w : World} (hm : l.length = m) (hl : m ≤ 281474976710656) (h : Rd w A l) :
    Calls Try.prog 16 #[.slice A m c] w fun e w' => ∃ b, e = .returned (.slice (some ⟨b, 0, none⟩) m m) ∧ St w w' [] [bt b l] := by
  have H := Lib.hid h; have HM := Lib.hid hm
  have S0 := Lib.hid (St.start w)
  clear h hm
  go_enter Try.func16, Try.ntmps16
  go_wp2_with ((with_reducible refine at_slot (N := 7) rfl ?_); refine make_law rfl 39 5 _ .u8 (m) 1 rfl rfl Try.underlying39 info_u8 (by omega) (by omega) S0.out ?_; intro b w1 h1; (try simp only [World.size_alloc, List.nil_append, List.cons_append, List.append_eq] at h1); have S1 := Lib.hid h1; clear h1 S0)
  have hz : zs m = fill (fun i => l.getD i 0) m 0 := by rw [fill_zero]; rfl
  rw [hz] at S1
  clear hz
  go_loopw [10] (fun vi wr => ∃ i : Nat, i ≤ m ∧ vi = .int .i64 i ∧ St w wr [] [bt b (fill (fun i => l.getD i 0) m i)]) (fun vi _ => m - (intOf vi).toNat)
  case atStart => exact ⟨0, by omega, rfl, S1.out⟩
  case round =>
    clear S1
    obtain ⟨i, hi, rfl, hs⟩ := hrel
    have S2 := Lib.hid hs; clear hs
    by_cases hlt : i < m
    · obtain ⟨b1, o1, e1, k1⟩ := (S2.out.ext H.out) (by rw [HM.out]; omega)
      have m1 := k1 i (by rw [HM.out]; exact hlt)
      have h1 := (S2.out.blk mem0).cellRow (i := i) (by rw [fill_length]; exact hlt)
      have f1 := (S2.out.blk mem0).free (i := i)
      have HF := Lib.hid (show (fill (fun i => l.getD i 0) m i).set i (l.getD i 0) = fill (fun i => l.getD i 0) m (i + 1) from fill_step (f := fun i => l.getD i 0) hlt)
      clear k1
      generalize (fill (fun i => l.getD i 0) m i).getD i 0 = y at *
      generalize hx : l.getD i 0 = x at *
      have HXX := Lib.hid hx
      clear hx
      have i1 : (i : Int) < (m : Int) := by omega
      go_wp2_with fail
      have S3 := Lib.hid (S2.out.setRow (N1 := []) i x)
      rw [HF.out] at S3
      refine ⟨⟨i + 1, by omega, by simp, S3.out⟩, ?_⟩
      simp [intOf]; omega
    · obtain rfl : i = m := by omega
      rw [fill_done] at S2
      have e : (List.range i).map (fun i => l.getD i 0) = l := by
        apply List.ext_getElem?
        intro j
        have := HM.out
        by_cases hj : j < l.length
        · simp [show j < i by omega, hj]
        · simp [show ¬ j < i by omega, hj]
      rw [e] at S2
      clear e
      go_wp2_with fail
      go_ret
      exact ⟨b, rfl, S2.out⟩

/-- The lists are not longer than memory. -/
def Fit (L : List (List Nat)) : Prop := L.length * 24 ≤ 140737488351232 ∧ ∀ l ∈ L, l.length ≤ 140737488351232
theorem Fit.get {L : List (List Nat)} (h : Fit L) (i : Nat) : (L.getD i []).length ≤ 140737488351232 := by
  by_cases hi : i < L.length
  · have e : L.getD i [] = L[i] := by simp [hi]
    rw [e]; exact h.2 _ (List.getElem_mem _)
  · simp [hi]
theorem take_snocL {L : List (List Nat)} {i : Nat} (hi : i < L.length) : L.take (i + 1) = L.take i ++ [L.getD i []] := by
  rw [List.take_succ_eq_append_getElem hi]; simp [hi]

theorem cons_perm (e : Ent) (G E : List Ent) : (e :: (G ++ E)).Perm (G ++ (E ++ [e])) := by
  rw [← List.append_assoc]; exact (List.perm_append_comm (l₁ := [e]) (l₂ := G ++ E))
set_option maxRecDepth 100000 in
set_option maxHeartbeats 2000000 in
theorem copies_st {A : Option Addr} {n c : Nat} {L : List (List Nat)} {w : World} (hn : L.length = n) (hf : Fit L) (h : RdL w [] A L) :
    Calls Try.prog 13 #[.slice A n c] w fun e w' => ∃ A' c' bs G, e = .returned (.slice A' n c') ∧ CopyL A' n c' bs L G ∧ St w w' [] (G ++ ents bs L) := by
  have H := Lib.hid h; have HN := Lib.hid hn; have HF := Lib.hid hf
  have hn24 : n * 24 ≤ 140737488351232 := by rw [← hn]; exact hf.1
  have S0 := Lib.hid (St.start w)
  clear h hn hf
  go_enter Try.func13, Try.ntmps13
  go_wp2_with fail
  go_loopw [3, 8] (fun vo vi wr => ∃ (i : Nat) (A' : Option Addr) (c' : Nat) (bs : List Nat) (G : List Ent), i ≤ n ∧ vi = .int .i64 i ∧ vo = .slice A' i c' ∧ CopyL A' i c' bs (L.take i) G ∧ St w wr [] (G ++ ents bs (L.take i))) (fun _ vi _ => n - (intOf vi).toNat)
  case atStart => exact ⟨0, none, 0, [], [], by omega, rfl, rfl, ⟨rfl, rfl, GrowV.nil, fun _ => rfl⟩, S0.out⟩
  case round =>
    clear S0
    obtain ⟨i, A1, c1, bs, G, hi, rfl, rfl, hc, hs⟩ := hrel
    have S1 := Lib.hid hs; have HC := Lib.hid hc; clear hs hc
    by_cases hlt : i < n
    · obtain ⟨ba, oa, B, cb, eA, ms, hcb, rs, _⟩ := (S1.out.extL H.out).at (i := i) (by rw [HN.out]; omega)
      subst eA
      have hll := HF.out.get i
      have HT := Lib.hid (take_snocL (L := L) (i := i) (by rw [HN.out]; exact hlt))
      have HLT : Hid ((L.take i).length = i) := Lib.hid (by rw [List.length_take, HN.out]; omega)
      generalize L.getD i [] = l at *
      obtain ⟨ln, hln⟩ : ∃ ln, Hid (l.length = ln) := ⟨_, Lib.hid rfl⟩
      rw [hln.out] at ms hll hcb
      have RS := Lib.hid rs; clear rs
      have HSL : Hid ((sds bs (L.take i)).length = i) := Lib.hid (by rw [sds_length HC.out.1, HLT.out])
      go_wp2_with fail
      refine (copied_st hln.out (by omega) RS.out).mono ?_
      rintro e w2 ⟨b, rfl, hh⟩
      have h2 := S1.out.call hh; clear hh S1
      try simp only [List.nil_append, List.cons_append, List.append_eq, Int.toNat_natCast] at h2
      have S2 := Lib.hid h2; clear h2
      go_wp2_with (first
        | ((with_reducible refine at_slot (N := 15) rfl ?_); refine bslice_st rfl _ 39 1 _ (cellsV es [⟨some ⟨b, 0, none⟩, ln, ln⟩]) rfl (fun _ => by kernel_rfl) S2.out ?_; intro sb w3 h3; (try simp only [World.size_alloc, List.nil_append, List.cons_append, List.append_eq] at h3); have S3 := Lib.hid h3; clear h3 S2)
        | ((with_reducible refine at_slot (N := 16) rfl ?_); refine append_v (enc := es) (G := G) (N := ents bs (L.take i) ++ [bt b l]) rfl _ _ 22 rfl ⟨none, 0, 0⟩ 24 Try.underlying22 info_sl9 rfl (fun _ => rfl) (.slice A1 i c1) (sds bs (L.take i)) rfl ((S3.out.drop (List.sublist_cons_self _ _)).perm (cons_perm _ _ _)) HC.out.2.2.1 (some ⟨sb, 0, none⟩) 1 1 [⟨some ⟨b, 0, none⟩, ln, ln⟩] rfl rfl (S3.out.rdV (t := 39) mem0) (by rw [HSL.out]; show (i + 1) * 24 ≤ _; omega) (by rw [HSL.out]; show i + 1 ≤ _; unfold maxLen; omega) ?_; intro v9 w4 G2 h4 hg hz; obtain ⟨A2, c2, rfl⟩ := hg.shape; have ez : (sds bs (L.take i) ++ [(⟨some ⟨b, 0, none⟩, ln, ln⟩ : Sd)]).length = i + 1 := (by rw [List.length_append, HSL.out]; rfl); rw [ez] at hg ⊢; have HG := Lib.hid hg; clear hg hz ez; (try simp only [World.size_alloc, List.nil_append, List.cons_append, List.append_eq] at h4); have S4 := Lib.hid h4; clear h4 S3))
      refine ⟨⟨i + 1, A2, c2, bs ++ [b], G2, by omega, by simp, rfl, ⟨by rw [HT.out, List.length_append, List.length_append, HC.out.1]; rfl, by rw [HT.out, List.length_append, HLT.out]; rfl, ?_, fun h => by omega⟩, ?_⟩, ?_⟩
      · have e : sds (bs ++ [b]) (L.take (i + 1)) = sds bs (L.take i) ++ [⟨some ⟨b, 0, none⟩, ln, ln⟩] := by rw [HT.out, sds_snoc HC.out.1, hln.out]
        rw [e]
        exact HG.out
      · have := S4.out
        rw [HT.out, ents_snoc HC.out.1]
        exact this
      · simp [intOf]; omega
    · obtain rfl : i = n := by omega
      have e : L.take i = L := List.take_of_length_le (by rw [HN.out]; exact Nat.le_refl _)
      rw [e] at HC S1
      clear e
      go_wp2_with fail
      go_ret
      exact ⟨A1, c1, bs, G, rfl, HC.out, S1.out⟩

set_option maxRecDepth 100000 in
set_option maxHeartbeats 1000000 in
theorem equal_any {A1 A2 : Option Addr} {m1 m2 c1 c2 : Nat} {l1 l2 : List Nat} {w : World} (hm1 : l1.length = m1) (hm2 : l2.length = m2) (hl : m1 ≤ 281474976710656) (h81 : B8 l1) (h82 : B8 l2) (h1 : Rd w A1 l1) (h2 : Rd w A2 l2) :
    Calls Try.prog 25 #[.slice A1 m1 c1, .slice A2 m2 c2] w fun e w' => e = .returned (.bool (decide (l1 = l2))) ∧ ∃ n, w' = w.drewN n := by
  have H1 := Lib.hid h1; have H2 := Lib.hid h2; have M1 := Lib.hid hm1; have M2 := Lib.hid hm2; have H81 := Lib.hid h81; have H82 := Lib.hid h82
  obtain ⟨B, HB⟩ : ∃ B, Hid (decide (l1 = l2) = B) := ⟨_, Lib.hid rfl⟩
  rw [HB.out]
  clear h1 h2 hm1 hm2 h81 h82
  by_cases hne : m1 ≠ m2
  · have q1 : (m1 == m2) = false := by simpa using hne
    have q2 : (((m1 : Nat) : Int) != ((m2 : Nat) : Int)) = true := by rw [bne_iff_ne]; omega
    have q3 : (m1 != m2) = true := by rw [bne_iff_ne]; exact hne
    have HQ : Hid (B = false) := Lib.hid (by rw [← HB.out, decide_eq_false_iff_not]; intro e; rw [e] at M1; exact hne (M1.out.symm.trans M2.out))
    clear hne
    go_enter Try.func25, Try.ntmps25
    go_wp2
    go_ret
    have hq := HQ.out
    subst hq
    exact ⟨rfl, 0, rfl⟩
  · obtain rfl : m1 = m2 := by omega
    obtain ⟨m, rfl⟩ : ∃ m, m = m1 := ⟨_, rfl⟩
    clear hne
    go_enter Try.func25, Try.ntmps25
    go_wp2
    go_loopw [13] (fun vi wr => ∃ i n : Nat, i ≤ m ∧ vi = .int .i64 i ∧ wr = w.drewN n ∧ l1.take i = l2.take i) (fun vi _ => m - (intOf vi).toNat)
    case atStart => exact ⟨0, 0, by omega, rfl, rfl, rfl⟩
    case round =>
      obtain ⟨i, n, hi, rfl, rfl, ht⟩ := hrel
      have HT := Lib.hid ht; clear ht
      by_cases hlt : i < m
      · obtain ⟨b1, o1, e1, k1⟩ := H1.out (by rw [M1.out]; omega)
        obtain ⟨b2, o2, e2, k2⟩ := H2.out (by rw [M2.out]; omega)
        have x1 := k1 i (by rw [M1.out]; exact hlt)
        have x2 := k2 i (by rw [M2.out]; exact hlt)
        have y1 := H81.out.get (i := i) (by rw [M1.out]; exact hlt)
        have y2 := H82.out.get (i := i) (by rw [M2.out]; exact hlt)
        have HG1 : Hid (l1[i]? = some (l1.getD i 0)) := Lib.hid (by have := M1.out; simp [show i < l1.length by omega])
        have HG2 : Hid (l2[i]? = some (l2.getD i 0)) := Lib.hid (by have := M2.out; simp [show i < l2.length by omega])
        subst e1 e2
        clear k1 k2
        generalize l1.getD i 0 = a at *
        generalize l2.getD i 0 = b at *
        have i1 : (i : Int) < (m : Int) := by omega
        by_cases hab : a = b
        · subst hab
          have HT2 : Hid (l1.take (i + 1) = l2.take (i + 1)) := Lib.hid (by rw [List.take_add_one, List.take_add_one, HT.out, HG1.out, HG2.out])
          clear H1 H2
          go_wp2
          go_quiet (fail)
          go_wp2
          go_roundw
          case rel => exact ⟨i + 1, _, by omega, by go_num, rfl, HT2.out⟩
          case measure => simp [intOf]; omega
        · have q2 : (((a : Nat) : Int) != ((b : Nat) : Int)) = true := by rw [bne_iff_ne]; omega
          have q4 : (((a : Nat) : Int) == ((b : Nat) : Int)) = false := by rw [beq_eq_false_iff_ne]; omega
          have q1 : (a == b) = false := by simpa using hab
          have q3 : (a != b) = true := by rw [bne_iff_ne]; exact hab
          have HQ : Hid (B = false) := Lib.hid (by
            rw [← HB.out, decide_eq_false_iff_not]
            intro e
            have := HG1.out
            rw [e, HG2.out] at this
            injection this with this
            exact hab this.symm)
          clear H1 H2 hab
          go_wp2
          go_quiet (fail)
          go_wp2
          go_ret
          have hq := HQ.out
          subst hq
          exact ⟨rfl, n + nq, by rw [World.drewN_drewN]⟩
      · obtain rfl : i = m := by omega
        have HQ : Hid (B = true) := Lib.hid (by
          rw [← HB.out, decide_eq_true_eq]
          have := HT.out
          rw [List.take_of_length_le (by rw [M1.out]; exact Nat.le_refl _), List.take_of_length_le (by rw [M2.out]; exact Nat.le_refl _)] at this
          exact this)
        clear H1 H2
        go_wp2
        go_ret
        have hq := HQ.out
        subst hq
        exact ⟨rfl, n, rfl⟩

end Go.Proofs.Ytdbfkjhdnbmpeaa.Sk

namespace Go.Proofs.Ytdbfkjhdnbmpeaa.Sk
set_option linter.unusedSimpArgs false
set_option linter.unusedVariables false
open Go Go.RowKit Go.Proofs.Ytdbfkjhdnbmpeaa Go.Proofs.Ytdbfkjhdnbmpeaa.Mm Go.Proofs.Ytdbfkjhdnbmpeaa.Gf Go.Proofs.Ytdbfkjhdnbmpeaa.Wr Go.Proofs.Ytdbfkjhdnbmpeaa.Nb Go.Proofs.Ytdbfkjhdnbmpeaa.St

/-- All lists are lists of bytes. -/
def B8L (L : List (List Nat)) : Prop := ∀ l ∈ L, B8 l
theorem B8L.get {L : List (List Nat)} (h : B8L L) (i : Nat) : B8 (L.getD i []) := by
  by_cases hi : i < L.length
  · have e : L.getD i [] = L[i] := by simp [hi]
    rw [e]; exact h _ (List.getElem_mem _)
  · simp [hi]; exact fun x hx => by simp at hx
theorem Bool.two (b : Bool) : b = true ∨ b = false := by cases b <;> simp

set_option maxRecDepth 100000 in
set_option maxHeartbeats 2000000 in
theorem all_any {A1 A2 : Option Addr} {m1 m2 c1 c2 : Nat} {L1 L2 : List (List Nat)} {w : World} (hm1 : L1.length = m1) (hm2 : L2.length = m2) (hf1 : Fit L1) (hf2 : Fit L2) (h81 : B8L L1) (h82 : B8L L2) (h1 : RdL w [] A1 L1) (h2 : RdL w [] A2 L2) :
    Calls Try.prog 20 #[.slice A1 m1 c1, .slice A2 m2 c2] w fun e w' => e = .returned (.bool (decide (L1 = L2))) ∧ ∃ n, w' = w.drewN n := by
  have H1 := Lib.hid h1; have H2 := Lib.hid h2; have M1 := Lib.hid hm1; have M2 := Lib.hid hm2; have H81 := Lib.hid h81; have H82 := Lib.hid h82; have F1 := Lib.hid hf1; have F2 := Lib.hid hf2
  have hb : m1 ≤ 140737488351232 := by have := hf1.1; omega
  obtain ⟨B, HB⟩ : ∃ B, Hid (decide (L1 = L2) = B) := ⟨_, Lib.hid rfl⟩
  rw [HB.out]
  clear h1 h2 hm1 hm2 h81 h82 hf1 hf2
  by_cases hne : m1 ≠ m2
  · have q1 : (m1 == m2) = false := by simpa using hne
    have q2 : (((m1 : Nat) : Int) != ((m2 : Nat) : Int)) = true := by rw [bne_iff_ne]; omega
    have q3 : (m1 != m2) = true := by rw [bne_iff_ne]; exact hne
    have HQ : Hid (B = false) := Lib.hid (by rw [← HB.out, decide_eq_false_iff_not]; intro e; rw [e] at M1; exact hne (M1.out.symm.trans M2.out))
    clear hne
    go_enter Try.func20, Try.ntmps20
    go_wp2
    go_ret
    have hq := HQ.out
    subst hq
    exact ⟨rfl, 0, rfl⟩
  · obtain rfl : m1 = m2 := by omega
    obtain ⟨m, rfl⟩ : ∃ m, m = m1 := ⟨_, rfl⟩
    clear hne
    go_enter Try.func20, Try.ntmps20
    go_wp2
    go_loopw [13] (fun vi wr => ∃ i : Nat, i ≤ m ∧ vi = .int .i64 i ∧ (∃ n, wr = w.drewN n) ∧ L1.take i = L2.take i) (fun vi _ => m - (intOf vi).toNat)
    case atStart => exact ⟨0, by omega, rfl, ⟨0, rfl⟩, rfl⟩
    case round =>
      obtain ⟨i, hi, rfl, hw, ht⟩ := hrel
      have HT := Lib.hid ht; clear ht
      have HW := Lib.hid hw; clear hw
      by_cases hlt : i < m
      · have R1 : RdL wr [] A1 L1 := by obtain ⟨n, e⟩ := HW.out; rw [e]; exact H1.out
        have R2 : RdL wr [] A2 L2 := by obtain ⟨n, e⟩ := HW.out; rw [e]; exact H2.out
        obtain ⟨b1, o1, B1, d1, e1, x1, g1, r1, _⟩ := R1.at (i := i) (by rw [M1.out]; omega)
        obtain ⟨b2, o2, B2, d2, e2, x2, g2, r2, _⟩ := R2.at (i := i) (by rw [M2.out]; omega)
        have HG1 : Hid (L1[i]? = some (L1.getD i [])) := Lib.hid (by have := M1.out; simp [show i < L1.length by omega])
        have HG2 : Hid (L2[i]? = some (L2.getD i [])) := Lib.hid (by have := M2.out; simp [show i < L2.length by omega])
        have HE := Lib.hid (fun k : Nat => equal_any (c1 := d1) (c2 := d2) (w := wr.drewN k) rfl rfl (by have := F1.out.get i; omega) (H81.out.get i) (H82.out.get i) r1 r2)
        subst e1 e2
        clear r1 r2 R1 R2 g1 g2
        generalize L1.getD i [] = a at *
        generalize L2.getD i [] = b at *
        obtain ⟨n1, hn1⟩ : ∃ n1, Hid (a.length = n1) := ⟨_, Lib.hid rfl⟩
        obtain ⟨n2, hn2⟩ : ∃ n2, Hid (b.length = n2) := ⟨_, Lib.hid rfl⟩
        obtain ⟨q, hq⟩ : ∃ q, Hid (decide (a = b) = q) := ⟨_, Lib.hid rfl⟩
        rw [hn1.out, hn2.out, hq.out] at HE
        rw [hn1.out] at x1
        rw [hn2.out] at x2
        have i1 : (i : Int) < (m : Int) := by omega
        clear H1 H2
        rcases Bool.two q with rfl | rfl
        · have hab := of_decide_eq_true hq.out
          have HT2 : Hid (L1.take (i + 1) = L2.take (i + 1)) := Lib.hid (by rw [List.take_add_one, List.take_add_one, HT.out, HG1.out, HG2.out, hab])
          clear hab
          go_wp2
          go_quiet (((with_reducible exact Calls.quiet_of (HE.out _))))
          go_wp2
          go_roundw
          case rel => exact ⟨i + 1, by omega, by go_num, by obtain ⟨n, e⟩ := HW.out; exact ⟨n + nq, by rw [e, World.drewN_drewN]⟩, HT2.out⟩
          case measure => simp [intOf]; omega
        · have hab := of_decide_eq_false hq.out
          have HQ : Hid (B = false) := Lib.hid (by
            rw [← HB.out, decide_eq_false_iff_not]
            intro e
            have := HG1.out
            rw [e, HG2.out] at this
            injection this with this
            exact hab this.symm)
          clear hab
          go_wp2
          go_quiet (((with_reducible exact Calls.quiet_of (HE.out _))))
          go_wp2
          go_ret
          have hq2 := HQ.out
          subst hq2
          exact ⟨rfl, by obtain ⟨n, e⟩ := HW.out; exact ⟨n + nq, by rw [e, World.drewN_drewN]⟩⟩
      · obtain rfl : i = m := by omega
        have HQ : Hid (B = true) := Lib.hid (by
          rw [← HB.out, decide_eq_true_eq]
          have := HT.out
          rw [List.take_of_length_le (by rw [M1.out]; exact Nat.le_refl _), List.take_of_length_le (by rw [M2.out]; exact Nat.le_refl _)] at this
          exact this)
        clear H1 H2
        go_wp2
        go_ret
        have hq := HQ.out
        subst hq
        exact ⟨rfl, HW.out⟩

theorem xor_lens (A1 A2 : Option Addr) (n m c1 c2 : Nat) (w : World) (h : n ≠ m) : Calls Try.prog 22 #[.slice A1 n c1, .slice A2 m c2] w fun e w' => e = .returned (.int .i64 6) ∧ w = w' := by
  have h1 : (n == m) = false := by simpa using h
  have h2 : (((n : Nat) : Int) != ((m : Nat) : Int)) = true := by rw [bne_iff_ne]; omega
  have h3 : (n != m) = true := by rw [bne_iff_ne]; exact h
  clear h
  go_enter Try.func22, Try.ntmps22
  go_wp2
  go_ret
  exact ⟨rfl, rfl⟩

set_option maxRecDepth 100000 in
set_option maxHeartbeats 2000000 in
theorem xor_at {bd od n cd : Nat} {A : Option Addr} {cs : Nat} {D l : List Nat} {w : World} (hd : Bytes w bd D) (hn : od + n ≤ D.length) (hl : l.length = n) (h8 : B8 l) (hD8 : B8 D) (hnm : n ≤ 281474976710656) (hs : SrcK w bd od A D l) :
    Calls Try.prog 22 #[.slice (some ⟨bd, od, none⟩) n cd, .slice A n cs] w fun e w' => e = .returned (.int .i64 0) ∧ St w w' [bt bd (Wr.wr D od ((List.range n).map fun i => D.getD (od + i) 0 ^^^ l.getD i 0))] [] := by
  have HD := Lib.hid hd; have HS := Lib.hid (hs.rd hd (by omega)); have H8 := Lib.hid h8; have HD8 := Lib.hid hD8
  have HN := Lib.hid hn; have HL := Lib.hid hl; have HAL := Lib.hid hs.al
  have S0 := Lib.hid (St.start1 hd)
  clear hd hs h8 hn hl hD8
  have HVL : Hid (((List.range n).map fun i => D.getD (od + i) 0 ^^^ l.getD i 0).length = n) := Lib.hid (by simp)
  have HVG : Hid (∀ i, i < n → ((List.range n).map fun i => D.getD (od + i) 0 ^^^ l.getD i 0).getD i 0 = D.getD (od + i) 0 ^^^ l.getD i 0) := Lib.hid (by
    intro i hi
    simp [hi])
  generalize ((List.range n).map fun i => D.getD (od + i) 0 ^^^ l.getD i 0) = vs at *
  go_enter Try.func22, Try.ntmps22
  go_wp2_with fail
  go_loopw [14] (fun vi wq => ∃ i : Nat, i ≤ n ∧ vi = .int .i64 i ∧ St w wq [bt bd (Wr.wr D od (vs.take i))] []) (fun vi _ => n - (intOf vi).toNat)
  case atStart => exact ⟨0, by omega, rfl, S0.out⟩
  case round =>
    clear S0
    obtain ⟨i, hi, rfl, hs⟩ := hrel
    have S1 := Lib.hid hs; clear hs
    by_cases hlt : i < n
    · have hx := H8.out.get (i := i) (by rw [HL.out]; exact hlt)
      obtain ⟨bs, os, eA, hs⟩ := HS.out (by rw [HL.out]; omega)
      have m1 := Nb.src_at HD.out S1.out.but (S1.out.blkW mem0) HVL.out HN.out (HAL.out _ _ eA) (hs i (by rw [HL.out]; exact hlt)) hlt (cell_lt (hs i (by rw [HL.out]; exact hlt)))
      subst eA
      clear hs
      have hlen : od + i < (Wr.wr D od (vs.take i)).length := by rw [wr_length]; have := HN.out; omega
      have m4 := (S1.out.blkW mem0).cellRow (i := od + i) hlen
      have f4 := (S1.out.blkW mem0).free (i := od + i)
      have hg : (Wr.wr D od (vs.take i)).getD (od + i) 0 = D.getD (od + i) 0 := by
        have h1 := HVL.out
        have h2 := HN.out
        rw [List.getD_eq_getElem?_getD, wr_get _ _ _ _ (by rw [List.length_take, h1]; omega), if_neg (by rw [List.length_take, h1]; omega), ← List.getD_eq_getElem?_getD]
      rw [hg] at m4
      clear hg
      have hy := HD8.out.get (i := od + i) (by have := HN.out; omega)
      have HV2 := Lib.hid (HVG.out i hlt)
      generalize D.getD (od + i) 0 = y at *
      generalize l.getD i 0 = x at *
      have e3 : Go.bits .xor .u8 (y : Int) (x : Int) = ((y ^^^ x : Nat) : Int) := Bt.xor8 hy hx
      go_wp2_with fail
      go_roundw
      case rel =>
        refine ⟨i + 1, by omega, by go_num, ?_⟩
        rw [wr_take_succ (by rw [HVL.out]; exact hlt), HV2.out]
        exact S1.out.setRowW (W1 := []) _ _
      case measure => simp [intOf]; omega
    · obtain rfl : i = n := by omega
      rw [List.take_of_length_le (by rw [HVL.out]; exact Nat.le_refl _)] at S1
      go_wp2_with fail
      go_ret
      exact ⟨rfl, S1.out⟩

/-- Is the span within the length? -/
def rngE (f t n : Int) : Int := if 0 ≤ f ∧ f ≤ t ∧ t ≤ n then 0 else 7
set_option maxRecDepth 100000 in
theorem within_st (f t n : Int) (w : World) : Calls Try.prog 35 #[.agg #[.int .i64 f, .int .i64 t], .int .i64 n] w fun e w' => e = .returned (.int .i64 (rngE f t n)) ∧ St w w' [] [] := by
  have S0 := Lib.hid ((St.start w).alloc 32 #[.int .i64 f, .int .i64 t]).nil
  obtain ⟨r, HR⟩ : ∃ r, Hid (rngE f t n = r) := ⟨_, Lib.hid rfl⟩
  rw [HR.out]
  by_cases h1 : f < 0
  · have q1 : decide (f < 0) = true := by simpa using h1
    have HQ : Hid (r = 7) := Lib.hid (by rw [← HR.out]; unfold rngE; rw [if_neg (by omega)])
    clear h1
    go_enter Try.func35, Try.ntmps35
    go_wp2
    go_ret
    have hq := HQ.out
    subst hq
    exact ⟨rfl, S0.out⟩
  · have q1 : decide (f < 0) = false := by simpa using h1
    by_cases h2 : t < f
    · have q2 : decide (t < f) = true := by simpa using h2
      have HQ : Hid (r = 7) := Lib.hid (by rw [← HR.out]; unfold rngE; rw [if_neg (by omega)])
      clear h1 h2
      go_enter Try.func35, Try.ntmps35
      go_wp2
      go_ret
      have hq := HQ.out
      subst hq
      exact ⟨rfl, S0.out⟩
    · have q2 : decide (t < f) = false := by simpa using h2
      by_cases h3 : t > n
      · have q3 : decide (n < t) = true := by simpa using h3
        have HQ : Hid (r = 7) := Lib.hid (by rw [← HR.out]; unfold rngE; rw [if_neg (by omega)])
        clear h1 h2 h3
        go_enter Try.func35, Try.ntmps35
        go_wp2
        go_ret
        have hq := HQ.out
        subst hq
        exact ⟨rfl, S0.out⟩
      · have q3 : decide (n < t) = false := by simpa using h3
        have HQ : Hid (r = 0) := Lib.hid (by rw [← HR.out]; unfold rngE; rw [if_pos (by omega)])
        clear h1 h2 h3
        go_enter Try.func35, Try.ntmps35
        go_wp2
        go_ret
        have hq := HQ.out
        subst hq
        exact ⟨rfl, S0.out⟩

end Go.Proofs.Ytdbfkjhdnbmpeaa.Sk

namespace Go.Proofs.Ytdbfkjhdnbmpeaa.Sk
set_option linter.unusedSimpArgs false
set_option linter.unusedVariables false
open Go Go.RowKit Go.Proofs.Ytdbfkjhdnbmpeaa Go.Proofs.Ytdbfkjhdnbmpeaa.Mm Go.Proofs.Ytdbfkjhdnbmpeaa.Gf Go.Proofs.Ytdbfkjhdnbmpeaa.Wr Go.Proofs.Ytdbfkjhdnbmpeaa.Nb Go.Proofs.Ytdbfkjhdnbmpeaa.St

/-- All lists are as long as the first. -/
def Same (X : List (List Nat)) : Prop := ∀ x ∈ X, x.length = (X.getD 0 []).length
instance (X : List (List Nat)) : Decidable (Same X) := by unfold Same; infer_instance
def lenM (X : List (List Nat)) : Nat := (X.getD 0 []).length
def lenX (X : List (List Nat)) : Int := if X = [] then -1 else (lenM X : Int)
def LenOk (rows srcs dsts : List (List Nat)) : Prop := rows.length = dsts.length ∧ (∀ r ∈ rows, r.length = srcs.length) ∧ Same (srcs ++ dsts)
instance (rows srcs dsts : List (List Nat)) : Decidable (LenOk rows srcs dsts) := by unfold LenOk; infer_instance
/-- What Apply and Agrees refuse. -/
def fitsE (rows srcs dsts : List (List Nat)) (f t : Int) : Int := if LenOk rows srcs dsts then rngE f t (lenM (srcs ++ dsts)) else 6
theorem Same.nil : Same [] := fun x h => by simp at h
theorem Same.one (l : List Nat) : Same ([] ++ [l]) := fun x h => by
  have : x = l := by simpa using h
  rw [this]; rfl
theorem lenX_one (l : List Nat) : lenX ([] ++ [l]) = (l.length : Int) := by unfold lenX lenM; simp
theorem getD0 {Z R : List (List Nat)} (h : Z ≠ []) : (Z ++ R).getD 0 [] = Z.getD 0 [] := by
  cases Z with
  | nil => exact (h rfl).elim
  | cons a Z => rfl
theorem lenX_snoc {Z : List (List Nat)} {l : List Nat} (h : Z ≠ []) : lenX (Z ++ [l]) = lenX Z := by
  unfold lenX lenM
  rw [if_neg h, if_neg (by simp), getD0 h]
theorem lenX_of {Z : List (List Nat)} (h : Z ≠ []) : lenX Z = (lenM Z : Int) := by unfold lenX; rw [if_neg h]
theorem Same.snoc {Z : List (List Nat)} {l : List Nat} (h : Z ≠ []) (hs : Same Z) (hl : l.length = lenM Z) : Same (Z ++ [l]) := by
  intro x hx
  rw [getD0 h]
  rcases List.mem_append.1 hx with hx | hx
  · exact hs x hx
  · have : x = l := by simpa using hx
    rw [this]; exact hl
theorem Same.last {Z R : List (List Nat)} {l : List Nat} (h : Z ≠ []) (hs : Same (Z ++ ([l] ++ R))) : l.length = lenM Z := by
  have := hs l (by simp)
  rw [getD0 h] at this
  exact this
theorem take_drop1 {Y : List (List Nat)} {k : Nat} (h : k < Y.length) : Y.take k ++ ([Y.getD k []] ++ Y.drop (k + 1)) = Y := by
  have e : Y.getD k [] = Y[k] := by simp [h]
  rw [e]
  have := List.take_append_drop k Y
  rw [List.drop_eq_getElem_cons h] at this
  exact this
/-- What has been looked at ahead of the j-th list of lists. -/
def cat (srcs dsts : List (List Nat)) : Nat → List (List Nat)
  | 0 => []
  | 1 => srcs
  | _ => srcs ++ dsts

set_option maxRecDepth 100000 in
theorem fits_nil (v1 v2 v3 : Value) (f t : Int) (w : World) : Calls Try.prog 33 #[.pointer none, v1, v2, v3, .agg #[.int .i64 f, .int .i64 t]] w fun e w' => e = .returned (.int .i64 1) ∧ St w w' [] [] := by
  have S0 := Lib.hid ((St.start w).alloc 32 #[.int .i64 f, .int .i64 t]).nil
  go_enter Try.func33, Try.ntmps33
  go_wp2
  go_ret
  exact ⟨rfl, S0.out⟩

set_option maxRecDepth 100000 in
set_option maxHeartbeats 4000000 in
theorem fits_st {p j : Nat} {S : List Ent} {A1 A2 A3 : Option Addr} {n1 n2 n3 c1 c2 c3 : Nat} {rows srcs dsts : List (List Nat)} {f t : Int} {w : World} (hS : SetE p j S) (hb : There w S) (h1 : rows.length = n1) (h2 : srcs.length = n2) (h3 : dsts.length = n3) (hf1 : Fit rows) (hf2 : Fit srcs) (hf3 : Fit dsts)
    (hr : RdL w [] A1 rows) (hs : RdL w [] A2 srcs) (hd : RdL w [] A3 dsts) :
    Calls Try.prog 33 #[.pointer (some ⟨p, 0, none⟩), .slice A1 n1 c1, .slice A2 n2 c2, .slice A3 n3 c3, .agg #[.int .i64 f, .int .i64 t]] w fun e w' => e = .returned (.int .i64 (fitsE rows srcs dsts f t)) ∧ St w w' [] [] := by
  obtain ⟨T, x, F, r, hSe, _⟩ := hS.ker
  have HP := Lib.hid (show (⟨p, 79, #[.iface T (.pointer (some x)), .int .i64 (j : Int)]⟩ : Ent) ∈ S by rw [hSe]; exact mem0)
  have HB := Lib.hid hb; have HR := Lib.hid hr; have HS := Lib.hid hs; have HD := Lib.hid hd; have F1 := Lib.hid hf1; have F2 := Lib.hid hf2; have F3 := Lib.hid hf3; have L1 := Lib.hid h1; have L2 := Lib.hid h2; have L3 := Lib.hid h3
  have b1 : n1 ≤ 140737488351232 := by have := hf1.1; omega
  have b2 : n2 ≤ 140737488351232 := by have := hf2.1; omega
  have b3 : n3 ≤ 140737488351232 := by have := hf3.1; omega
  obtain ⟨E, HE⟩ : ∃ E, Hid (fitsE rows srcs dsts f t = E) := ⟨_, Lib.hid rfl⟩
  rw [HE.out]
  have S0 := Lib.hid (St.start w)
  clear hS hb hr hs hd hf1 hf2 hf3 h1 h2 h3 hSe
  have idx0 : ∀ w : World, (Instr.index 97 (.agg #[.slice A2 n2 c2, .slice A3 n3 c3]) (.int .i64 0)).run Try.prog w = .ok (.slice A2 n2 c2) w := fun w => by kernel_rfl
  have idx1 : ∀ w : World, (Instr.index 97 (.agg #[.slice A2 n2 c2, .slice A3 n3 c3]) (.int .i64 1)).run Try.prog w = .ok (.slice A3 n3 c3) w := fun w => by kernel_rfl
  have HI0 := Lib.hid idx0; have HI1 := Lib.hid idx1; clear idx0 idx1
  have hne6 : ¬ LenOk rows srcs dsts → E = 6 := fun h => by rw [← HE.out]; unfold fitsE; rw [if_neg h]
  have H6 := Lib.hid hne6; clear hne6
  have m0 := (HB.out _ HP.out).cell (i := 0) rfl
  by_cases h13 : n1 = n3
  · subst h13
    go_enter Try.func33, Try.ntmps33
    go_wp2_with ((with_reducible refine at_slot (N := 9) rfl ?_); refine box_law rfl _ _ #[.int .i64 f, .int .i64 t] rfl rfl S0.out ?_; intro sb w1 h1; have m1 := ((HB.out.keep h1 (by simp)) _ HP.out).cell (i := 0) rfl; clear m0; (try simp only [World.size_alloc, List.nil_append, List.cons_append, List.append_eq] at h1); have S1 := Lib.hid h1; clear h1 S0)
    clear m1
    go_loop [35] (fun vi => ∃ i : Nat, i ≤ n1 ∧ vi = .int .i64 i ∧ ∀ j, j < i → (rows.getD j []).length = n2) (fun vi => n1 - (intOf vi).toNat)
    case atStart => exact ⟨0, by omega, rfl, fun j hj => by omega⟩
    case round =>
      obtain ⟨i, hi, rfl, hall⟩ := hrel
      have HALL := Lib.hid hall; clear hall
      by_cases hlt : i < n1
      · obtain ⟨b4, o4, B4, d4, e4, x4, g4, r4, _⟩ := (S1.out.extL HR.out).at (i := i) (by rw [L1.out]; exact hlt)
        subst e4
        have HMEM : Hid (rows.getD i [] ∈ rows) := Lib.hid (by
          rw [List.getD_eq_getElem?_getD, List.getElem?_eq_getElem (by rw [L1.out]; exact hlt), Option.getD_some]; exact List.getElem_mem _)
        obtain ⟨q, hq⟩ : ∃ q, Hid ((rows.getD i []).length = q) := ⟨_, Lib.hid rfl⟩
        rw [hq.out] at x4
        clear r4 g4
        have i1 : (i : Int) < (n1 : Int) := by omega
        by_cases hqn : q = n2
        · subst hqn
          go_wp2_with fail
          clear x4
          go_round
          case rel => exact ⟨i + 1, by omega, by go_num, fun j hj => by
            rcases Nat.lt_or_ge j i with h | h
            · exact HALL.out j h
            · obtain rfl : j = i := by omega
              exact hq.out⟩
          case measure => simp [intOf]; omega
        · have q1 : (q == n2) = false := by simpa using hqn
          have q2 : (((q : Nat) : Int) != ((n2 : Nat) : Int)) = true := by rw [bne_iff_ne]; omega
          have q3 : (q != n2) = true := by rw [bne_iff_ne]; exact hqn
          have HQ : Hid (E = 6) := Lib.hid (H6.out fun h => hqn (by rw [← hq.out, ← L2.out]; exact h.2.1 _ HMEM.out))
          clear hqn
          go_wp2_with fail
          go_ret
          have hq := HQ.out
          subst hq
          exact ⟨rfl, S1.out.nil⟩
      · obtain rfl : i = n1 := by omega
        have HROW : Hid (∀ r ∈ rows, r.length = srcs.length) := Lib.hid (fun r hr => by
          obtain ⟨k, hk, rfl⟩ := List.getElem_of_mem hr
          have := HALL.out k (by rw [← L1.out]; exact hk)
          rw [L2.out, ← this]; simp [hk])
        clear hlt
        go_wp2_with fail
        clear hi
        obtain ⟨n1, rfl⟩ : ∃ n1, n1 = i := ⟨_, rfl⟩
        go_loop [13, 48] (fun vl vj => ∃ j : Nat, j ≤ 2 ∧ vj = .int .i64 j ∧ vl = .int .i64 (lenX (cat srcs dsts j)) ∧ Same (cat srcs dsts j)) (fun _ vj => 2 - (intOf vj).toNat)
        case atStart => exact ⟨0, by omega, rfl, by simp [cat, lenX], Same.nil⟩
        case round =>
          obtain ⟨k, hk, rfl, rfl, hsame⟩ := hrel
          by_cases hk2 : k < 2
          · obtain ⟨Y, AY, nY, cY, hidx, hRY, hlY, hFY, hcat, R, hR⟩ : ∃ (Y : List (List Nat)) (AY : Option Addr) (nY cY : Nat), (∀ w : World, (Instr.index 97 (.agg #[.slice A2 n2 c2, .slice A3 n1 c3]) (.int .i64 (k : Int))).run Try.prog w = .ok (.slice AY nY cY) w) ∧ RdL w [] AY Y ∧ Y.length = nY ∧ Fit Y ∧ cat srcs dsts (k + 1) = cat srcs dsts k ++ Y ∧ ∃ R, srcs ++ dsts = cat srcs dsts (k + 1) ++ R := by
              rcases k with _ | k
              · exact ⟨srcs, A2, n2, c2, HI0.out, HS.out, L2.out, F2.out, rfl, dsts, rfl⟩
              · obtain rfl : k = 0 := by omega
                exact ⟨dsts, A3, n1, c3, HI1.out, HD.out, L3.out, F3.out, rfl, [], by simp [cat]⟩
            have LY := Lib.hid hlY; have HRY := Lib.hid hRY; have HCAT := Lib.hid hcat; have HRR := Lib.hid hR
            have bY : nY ≤ 140737488351232 := by have := hFY.1; rw [← hlY]; omega
            clear hRY hlY hFY hcat hR
            obtain ⟨Z, hZ⟩ : ∃ Z, Hid (cat srcs dsts k = Z) := ⟨_, Lib.hid rfl⟩
            rw [hZ.out] at hsame HCAT ⊢
            have HSM := Lib.hid hsame; clear hsame
            obtain ⟨v0, hv0⟩ : ∃ v0, Hid (lenX Z = v0) := ⟨_, Lib.hid rfl⟩
            rw [hv0.out]
            have k2 : (k : Int) < 2 := by omega
            go_wp2_with fail
            clear hidx
            go_loop [13, 53] (fun vl vj => ∃ i : Nat, i ≤ nY ∧ vj = .int .i64 i ∧ vl = .int .i64 (lenX (Z ++ Y.take i)) ∧ Same (Z ++ Y.take i)) (fun _ vj => nY - (intOf vj).toNat)
            case atStart => exact ⟨0, by omega, rfl, by rw [List.take_zero, List.append_nil, hv0.out], by rw [List.take_zero, List.append_nil]; exact HSM.out⟩
            case round =>
              obtain ⟨i, hi, rfl, rfl, hsame⟩ := hrel
              by_cases hlt : i < nY
              · obtain ⟨b4, o4, B4, d4, e4, x4, g4, r4, _⟩ := (S1.out.extL HRY.out).at (i := i) (by rw [LY.out]; exact hlt)
                subst e4
                have HT := Lib.hid (take_snocL (L := Y) (i := i) (by rw [LY.out]; exact hlt))
                have HTD := Lib.hid (take_drop1 (Y := Y) (k := i) (by rw [LY.out]; exact hlt))
                obtain ⟨q, hq⟩ : ∃ q, Hid ((Y.getD i []).length = q) := ⟨_, Lib.hid rfl⟩
                rw [hq.out] at x4
                clear r4 g4
                generalize Y.getD i [] = l at *
                have i1 : (i : Int) < (nY : Int) := by omega
                have HTT : Hid (Z ++ Y.take (i + 1) = (Z ++ Y.take i) ++ [l]) := Lib.hid (by rw [HT.out, List.append_assoc])
                have HZY : Hid (srcs ++ dsts = (Z ++ Y.take i) ++ ([l] ++ (Y.drop (i + 1) ++ R))) := Lib.hid (by
                  rw [HRR.out, HCAT.out]
                  conv => lhs; rw [← HTD.out]
                  simp only [List.append_assoc])
                generalize Z ++ Y.take i = V at *
                have HSV := Lib.hid hsame; clear hsame
                obtain ⟨v, hv⟩ : ∃ v, Hid (lenX V = v) := ⟨_, Lib.hid rfl⟩
                rw [hv.out]
                by_cases hV : V = []
                · subst hV
                  obtain rfl : v = -1 := by rw [← hv.out]; rfl
                  have HL1 : Hid (lenX ([] ++ [l]) = (q : Int)) := Lib.hid (by rw [lenX_one, hq.out])
                  have HS1 := Lib.hid (Same.one l)
                  go_wp2_with fail
                  clear x4
                  go_round
                  case rel => exact ⟨i + 1, by omega, by go_num, by rw [HTT.out, HL1.out], by rw [HTT.out]; exact HS1.out⟩
                  case measure => simp [intOf]; omega
                · obtain ⟨u, hu⟩ : ∃ u : Nat, Hid (lenM V = u) := ⟨_, Lib.hid rfl⟩
                  obtain rfl : v = (u : Int) := by rw [← hv.out, ← hu.out]; exact lenX_of hV
                  have u0 : (0 : Int) ≤ (u : Int) := by omega
                  have u1 : decide ((u : Int) < 0) = false := by simp
                  by_cases hqu : q = u
                  · subst hqu
                    have HL1 : Hid (lenX (V ++ [l]) = (q : Int)) := Lib.hid (by rw [lenX_snoc hV, hv.out])
                    have HS1 := Lib.hid (Same.snoc (l := l) hV HSV.out (by rw [hq.out, hu.out]))
                    clear hV
                    go_wp2_with fail
                    clear x4
                    go_round
                    case rel => exact ⟨i + 1, by omega, by go_num, by rw [HTT.out, HL1.out], by rw [HTT.out]; exact HS1.out⟩
                    case measure => simp [intOf]; omega
                  · have q1 : (q == u) = false := by simpa using hqu
                    have q2 : (((q : Nat) : Int) != ((u : Nat) : Int)) = true := by rw [bne_iff_ne]; omega
                    have q3 : (q != u) = true := by rw [bne_iff_ne]; exact hqu
                    have HQ : Hid (E = 6) := Lib.hid (H6.out fun h => hqu (by
                      have h3 := h.2.2
                      rw [HZY.out] at h3
                      rw [← hq.out, ← hu.out]
                      exact Same.last hV h3))
                    clear hqu hV
                    go_wp2_with fail
                    go_ret
                    have hq := HQ.out
                    subst hq
                    exact ⟨rfl, S1.out.nil⟩
              · obtain rfl : i = nY := by omega
                have e : Y.take i = Y := List.take_of_length_le (by rw [LY.out]; exact Nat.le_refl _)
                rw [e] at hsame ⊢
                rw [← HCAT.out] at hsame ⊢
                have HSM2 := Lib.hid hsame
                clear e hlt hsame
                obtain ⟨v9, hv9⟩ : ∃ v9, Hid (lenX (cat srcs dsts (k + 1)) = v9) := ⟨_, Lib.hid rfl⟩
                rw [hv9.out]
                go_wp2_with fail
                go_round
                case rel => exact ⟨k + 1, by omega, by go_num, by rw [hv9.out], HSM2.out⟩
                case measure => simp [intOf]; omega
          · obtain rfl : k = 2 := by omega
            have HEE : Hid (E = rngE f t (lenM (srcs ++ dsts))) := Lib.hid (by
              rw [← HE.out]; unfold fitsE
              rw [if_pos ⟨by rw [L1.out, L3.out], HROW.out, hsame⟩])
            clear hsame hk2 hk
            have ce : cat srcs dsts 2 = srcs ++ dsts := rfl
            rw [ce]
            clear ce
            generalize srcs ++ dsts = V at *
            obtain ⟨v, hv⟩ : ∃ v, Hid (lenX V = v) := ⟨_, Lib.hid rfl⟩
            rw [hv.out]
            have y0 := (S1.out.blk (b := sb) (t := 32) (c := #[.int .i64 f, .int .i64 t]) mem0).cell (i := 0) rfl
            have y1 := (S1.out.blk (b := sb) (t := 32) (c := #[.int .i64 f, .int .i64 t]) mem0).cell (i := 1) rfl
            by_cases hV : V = []
            · subst hV
              obtain rfl : v = -1 := by rw [← hv.out]; rfl
              go_wp2_with fail
              refine (within_st f t 0 _).mono ?_
              rintro e w2 ⟨rfl, hh⟩
              have h2 := S1.out.call hh; clear hh S1
              try simp only [List.nil_append, List.cons_append, List.append_eq, Int.toNat_natCast] at h2
              have S2 := Lib.hid h2; clear h2
              go_wp2_with fail
              go_ret
              have hq := HEE.out
              subst hq
              exact ⟨rfl, S2.out.nil⟩
            · obtain ⟨u, hu⟩ : ∃ u : Nat, Hid (lenM V = u) := ⟨_, Lib.hid rfl⟩
              obtain rfl : v = (u : Int) := by rw [← hv.out, ← hu.out]; exact lenX_of hV
              clear hV
              go_wp2_with fail
              refine (within_st f t (u : Int) _).mono ?_
              rintro e w2 ⟨rfl, hh⟩
              have h2 := S1.out.call hh; clear hh S1
              try simp only [List.nil_append, List.cons_append, List.append_eq, Int.toNat_natCast] at h2
              have S2 := Lib.hid h2; clear h2
              go_wp2_with fail
              go_ret
              have hq := HEE.out
              rw [hu.out] at hq
              subst hq
              exact ⟨rfl, S2.out.nil⟩
  · have q1 : (n1 == n3) = false := by simpa using h13
    have q2 : (((n1 : Nat) : Int) != ((n3 : Nat) : Int)) = true := by rw [bne_iff_ne]; omega
    have q3 : (n1 != n3) = true := by rw [bne_iff_ne]; exact h13
    have HQ : Hid (E = 6) := Lib.hid (H6.out fun h => h13 (by rw [← L1.out, ← L3.out]; exact h.1))
    clear h13
    go_enter Try.func33, Try.ntmps33
    go_wp2_with ((with_reducible refine at_slot (N := 9) rfl ?_); refine box_law rfl _ _ #[.int .i64 f, .int .i64 t] rfl rfl S0.out ?_; intro sb w1 h1; have m1 := ((HB.out.keep h1 (by simp)) _ HP.out).cell (i := 0) rfl; clear m0; (try simp only [World.size_alloc, List.nil_append, List.cons_append, List.append_eq] at h1); have S1 := Lib.hid h1; clear h1 S0)
    go_ret
    have hq := HQ.out
    subst hq
    exact ⟨rfl, S1.out.nil⟩

end Go.Proofs.Ytdbfkjhdnbmpeaa.Sk
