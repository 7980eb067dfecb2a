/- Layer 9: fits. -/
import Derived.Test.YtdlmkhlkgklkaaaSk
import Derived.Test.YtdlmkhlkgklkaaaQt

namespace Go.Proofs.Ytdlmkhlkgklkaaa.Sk
set_option linter.unusedSimpArgs false
set_option linter.unusedVariables false
open Go Go.RowKit Go.Proofs.Ytdlmkhlkgklkaaa Go.Proofs.Ytdlmkhlkgklkaaa.Mm Go.Proofs.Ytdlmkhlkgklkaaa.Gf Go.Proofs.Ytdlmkhlkgklkaaa.Wr Go.Proofs.Ytdlmkhlkgklkaaa.Tb Go.Proofs.Ytdlmkhlkgklkaaa.St

/-- The sum of the first i products at the place t. -/
def smk (row : List Nat) (srcs : List (List Nat)) (t : Nat) : Nat → Nat
  | 0 => 0
  | i + 1 => smk row srcs t i ^^^ gm (row.getD i 0) ((srcs.getD i []).getD t 0)
/-- .. of all of them, n places from f on. -/
def sumK (row : List Nat) (srcs : List (List Nat)) (f n i : Nat) : List Nat := (List.range n).map fun t => smk row srcs (f + t) i
def sumL (row : List Nat) (srcs : List (List Nat)) (f n : Nat) : List Nat := sumK row srcs f n row.length
theorem sumK_length (row : List Nat) (srcs : List (List Nat)) (f n i : Nat) : (sumK row srcs f n i).length = n := by simp [sumK]
theorem sumL_length (row : List Nat) (srcs : List (List Nat)) (f n : Nat) : (sumL row srcs f n).length = n := sumK_length _ _ _ _ _
theorem sumK_get {row : List Nat} {srcs : List (List Nat)} {f n i t : Nat} (h : t < n) : (sumK row srcs f n i).getD t 0 = smk row srcs (f + t) i := by simp [sumK, h]
theorem sumK_zero (row : List Nat) (srcs : List (List Nat)) (f n : Nat) : sumK row srcs f n 0 = List.replicate n 0 := by
  apply List.ext_getElem?
  intro t
  by_cases h : t < n <;> simp [sumK, smk, h]
theorem smk_lt {row : List Nat} {srcs : List (List Nat)} {t : Nat} (h8 : B8 row) : ∀ i, i ≤ row.length → smk row srcs t i < 256
  | 0, _ => by simp [smk]
  | i + 1, h => Nat.xor_lt_two_pow (n := 8) (smk_lt h8 i (by omega)) (gm_lt _ (h8.get (by omega)))
theorem sumK_b8 {row : List Nat} {srcs : List (List Nat)} {f n i : Nat} (h8 : B8 row) (h : i ≤ row.length) : B8 (sumK row srcs f n i) := by
  intro x hx
  obtain ⟨t, _, rfl⟩ := List.mem_map.1 hx
  exact smk_lt h8 i h
theorem sumK_succ {row : List Nat} {srcs : List (List Nat)} {D : List Nat} {od f n i : Nat} (ho : od + n ≤ D.length) (hs : f + n ≤ (srcs.getD i []).length) :
    Wr.wr (Wr.wr D od (sumK row srcs f n i)) od ((List.range n).map fun t => (Wr.wr D od (sumK row srcs f n i)).getD (od + t) 0 ^^^ gm (row.getD i 0) ((((srcs.getD i []).drop f).take n).getD t 0)) = Wr.wr D od (sumK row srcs f n (i + 1)) := by
  apply List.ext_getElem?
  intro j
  have hl := sumK_length row srcs f n i
  have hl1 := sumK_length row srcs f n (i + 1)
  rw [wr_get _ _ _ _ (by rw [wr_length]; simpa using ho), wr_get (sumK row srcs f n (i + 1)) _ _ _ (by rw [hl1]; exact ho)]
  rw [List.length_map, List.length_range, hl1]
  by_cases hj : od ≤ j ∧ j < od + n
  · rw [if_pos hj, if_pos hj]
    obtain ⟨t, rfl⟩ : ∃ t, j = od + t := ⟨j - od, by omega⟩
    have ht : t < n := by omega
    rw [show od + t - od = t by omega]
    have e1 : (Wr.wr D od (sumK row srcs f n i)).getD (od + t) 0 = smk row srcs (f + t) i := by
      rw [List.getD_eq_getElem?_getD, wr_get _ _ _ _ (by rw [hl]; exact ho), if_pos (by rw [hl]; omega), show od + t - od = t by omega, ← List.getD_eq_getElem?_getD, sumK_get ht]
    have e2 : (((srcs.getD i []).drop f).take n).getD t 0 = (srcs.getD i []).getD (f + t) 0 := by
      rw [List.getD_eq_getElem?_getD, List.getElem?_take, if_pos ht, List.getElem?_drop, ← List.getD_eq_getElem?_getD]
    rw [List.getElem?_map, List.getElem?_range ht, Option.map_some, e1, e2]
    simp only [sumK, List.getElem?_map, List.getElem?_range ht, Option.map_some, smk]
  · rw [if_neg hj, if_neg hj, wr_get _ _ _ _ (by rw [hl]; exact ho), if_neg (by rw [hl]; exact hj)]

section
variable {w0 w : World} {W1 W2 N : List Ent} {ops : Array Oper} {rest : List Oper} {o : Oper} {a : Act} {Q : Exit → Act → World → Prop}
/-- clear of bytes that may be written. -/
theorem clear_law (hgd : o.guard = none) (x : Operand) (ho : o.op = .call { callee := .builtin .clear, args := #[x], argTypes := #[22] }) (bd od n c : Nat) (D : List Nat) (hx : a.eval x = .slice (some ⟨bd, od, none⟩) n c)
    (h : St w0 w (W1 ++ bt bd D :: W2) N) (hf : od + n ≤ D.length)
    (hK : ∀ w', St w0 w' (W1 ++ bt bd (Wr.wr D od (List.replicate n 0)) :: W2) N → wpList Try.prog ops Q rest (a.put o.dst (.tuple #[])) w') : wpList Try.prog ops Q (o :: rest) a w := by
  have hrun : ∃ w', (∀ ty, (Builtin.clear_ #[22] ty #[.slice (some ⟨bd, od, none⟩) n c]).run Try.prog w = .ok (.tuple #[]) w') ∧ St w0 w' (W1 ++ bt bd (Wr.wr D od (List.replicate n 0)) :: W2) N := by
    rcases Nat.eq_zero_or_pos n with rfl | hn
    · exact ⟨w, fun ty => by simp [Builtin.clear_, run_underlying Try.underlying22], h⟩
    · have hb := h.blkW (b := bd) (t := 5) (c := row .u8 D) (by simp)
      refine ⟨_, fun ty => Lib.run_clear_slice w 22 5 ty (.int .u8 0) Try.underlying22 (fun w => by kernel_rfl) rfl rfl bd od n c hn (fun j hj => ?_) (fun j hj => hb.free), h.zerosW n od D w⟩
      rw [hb.cellRow (i := od + j) (by omega)]; rfl
  obtain ⟨w', hr, hs⟩ := hrun
  refine ev hgd (v := .tuple #[]) (w1 := w') ?_ (hK _ hs)
  unfold execOp
  simp only [ho, resolve, invoke, builtin, Sem.run_bind, Sem.run_pure, Result.andThen_ok, List.map_toArray, List.map_cons, List.map_nil, hx, hr]
end

/-- A slice of a slice, in a region that draws its order. -/
theorem quiet_slice {P : Program} {ops : Array Oper} {C : World → Prop} {Q : Act → Prop} {a : Act} {o : Oper} {rest : List Oper} (hgd : o.guard = none) (t e : TypeId) (ht : P.underlying t = some (.slice e)) (hsz : (P.info? e).map (·.size) = some 1) (x lo hi : Operand) (ho : o.op = .slice t x (some lo) (some hi) none)
    (A : Option Addr) (len cap f n : Nat) (hx : a.eval x = .slice A len cap) (y z : Int) (hl : a.eval lo = .int .i64 y) (hy : y = (f : Int)) (hh : a.eval hi = .int .i64 z) (hz : z = ((f + n : Nat) : Int)) (hc : f + n ≤ cap)
    (hK : wpQuiet P ops C Q rest (a.put o.dst (.slice (cutA A cap f) n (cap - f)))) : wpQuiet P ops C Q (o :: rest) a := by
  subst hy hz
  refine wpQuiet_step fun K hk => ?_
  rw [if_pos (by simp [Region.wanted, hgd])]
  refine ⟨.slice (cutA A cap f) n (cap - f), fun w _ => ?_, hk _ hK⟩
  have e1 : (execOp a.eval o).run P w = .ok (.value (.slice (cutA A cap f) n (cap - f))) w := by
    unfold execOp
    simp only [ho, hx, Option.map_none, Option.map_some, hl, hh]
    have e1 : (Instr.sliceAt t (.slice A len cap) (some (.int .i64 (f : Nat))) (some (.int .i64 ((f + n : Nat) : Int))) none).run P w = .ok (.slice (cutA A cap f) n (cap - f)) w := by
      unfold Instr.sliceAt
      simp only [Sem.run_bind, run_underlying ht, Result.andThen_ok]
      exact run_cut t e ht hsz A len cap f n _ _ (.inr rfl) (.inr rfl) hc
    simp only [Sem.run_bind, e1, Result.andThen_ok, Sem.run_pure]
  unfold Oper.quietAt
  rw [e1]
  exact ⟨rfl, rfl⟩

set_option maxRecDepth 100000 in
set_option maxHeartbeats 2000000 in
theorem sum_at {p j : Nat} {S : List Ent} {Ar As : Option Addr} {k kc m mc bd od n cd f : Nat} {row : List Nat} {srcs : List (List Nat)} {D : List Nat} {w : World} (hS : SetE p j S) (hb : There w S) (hne : ∀ e ∈ S, e.b ≠ bd) (hd : Bytes w bd D) (ho : od + n ≤ D.length) (hD8 : B8 D) (hcd : n ≤ cd)
    (hk : row.length = k) (hr : Rd w Ar row) (hro : Off [bd] Ar) (hr8 : B8 row) (hm : srcs.length = m) (hkm : k ≤ m) (hs : RdL w [bd] As srcs) (hs8 : ∀ l ∈ srcs, B8 l ∧ f + n ≤ l.length ∧ l.length ≤ 140737488351232) (hn : n ≤ 140737488351232) (hf : f + n ≤ 140737488351232) (hk63 : k ≤ 140737488351232) :
    Calls Try.prog 24 #[.pointer (some ⟨p, 0, none⟩), .slice Ar k kc, .slice As m mc, .int .i64 (f : Int), .slice (some ⟨bd, od, none⟩) n cd] w fun e w' => e = .returned (.tuple #[]) ∧ St w w' [bt bd (Wr.wr D od (sumL row srcs f n))] [] := by
  obtain ⟨T, x, F, r, hSe, hK⟩ := hS.ker
  have HM := Lib.hid hK.meth; have HC := Lib.hid hK.call; have HK := Lib.hid hK
  have HB := Lib.hid hb; have HNE := Lib.hid hne; have HR := Lib.hid hr; have HRO := Lib.hid hro; have HR8 := Lib.hid hr8; have HKL := Lib.hid hk; have HML := Lib.hid hm; have HS := Lib.hid hs; have HS8 := Lib.hid hs8; have HD8 := Lib.hid hD8; have HO := Lib.hid ho
  have HP := Lib.hid (show (⟨p, 62, #[.iface T (.pointer (some x)), .int .i64 (j : Int)]⟩ : Ent) ∈ S by rw [hSe]; exact mem0)
  have S0 := Lib.hid (St.start1 hd)
  clear hS hb hne hd ho hD8 hk hr hro hr8 hm hs hs8 hSe hK
  go_enter Try.func24, Try.ntmps24
  go_wp2_with (skip; with_reducible refine clear_law (W1 := []) (W2 := []) rfl (.tmp 12) rfl bd od n cd D rfl S0.out HO.out ?_; intro w1 h1; (try simp only [World.size_alloc, List.nil_append, List.cons_append, List.append_eq] at h1); have S1 := Lib.hid h1; clear h1 S0)
  rw [← sumK_zero row srcs f n] at S1
  go_loopw [15] (fun vi wq => ∃ i : Nat, i ≤ k ∧ vi = .int .i64 i ∧ St w wq [bt bd (Wr.wr D od (sumK row srcs f n i))] []) (fun vi _ => k - (intOf vi).toNat)
  case atStart => exact ⟨0, by omega, rfl, S1.out⟩
  case round =>
    clear S1
    obtain ⟨i, hi, rfl, hs⟩ := hrel
    have S2 := Lib.hid hs; clear hs
    by_cases hlt : i < k
    · obtain ⟨br, orr, eA, kr⟩ := (S2.out.rdX HR.out HRO.out (by simp)) (by rw [HKL.out]; omega)
      have mr := kr i (by rw [HKL.out]; exact hlt)
      subst eA
      clear kr
      have hc := HR8.out.get (i := i) (by rw [HKL.out]; exact hlt)
      have hmem : srcs.getD i [] ∈ srcs := by
        rw [List.getD_eq_getElem?_getD, List.getElem?_eq_getElem (by rw [HML.out]; omega), Option.getD_some]; exact List.getElem_mem _
      obtain ⟨q1, q2, q3⟩ := HS8.out _ hmem
      obtain ⟨ba, oa, Bs, ks, eA, ms, hks, rs, os⟩ := (S2.out.rdLX HS.out (by simp)).at (i := i) (by rw [HML.out]; omega)
      subst eA
      have HX := Lib.hid (sumK_succ (row := row) (srcs := srcs) (D := D) (od := od) (f := f) (n := n) (i := i) HO.out q2)
      have HX8 := Lib.hid (wr_b8 (o := od) HD8.out (sumK_b8 (row := row) (srcs := srcs) (f := f) (n := n) (i := i) HR8.out (by rw [HKL.out]; omega)))
      generalize row.getD i 0 = c at *
      generalize srcs.getD i [] = l at *
      have m0 := ((HB.out.keep S2.out (fun e he x hx => by rw [List.mem_singleton] at hx; subst hx; exact fun h => HNE.out e he h.symm)) _ HP.out).cell (i := 0) rfl
      have RS := Lib.hid rs; have OS := Lib.hid os; have Q1 := Lib.hid q1; have Q2 := Lib.hid q2
      clear rs os q1 q2 hmem
      have i1 : (i : Int) < (k : Int) := by omega
      have i2 : (i : Int) < (m : Int) := by omega
      have i3 : i < m := by omega
      have f0 : (0 : Int) ≤ (f : Int) := by omega
      have f1 : (f : Int) + (n : Int) ≤ 140737488351232 := by omega
      have c0 : (0 : Int) ≤ (c : Int) := by omega
      have c1 : (c : Int) < 256 := by omega
      go_wp2_with fail
      refine Qt.quiet_tail 19 (by kernel_rfl) (by kernel_rfl) ?_
      simp only [List.take_succ_cons, List.take_zero, List.drop_succ_cons, List.drop_zero]
      iterate 16 (first | go_big_quiet_step (fail) | quiet_step (fail))
      refine quiet_slice rfl 22 5 Try.underlying22 (by kernel_rfl) _ _ _ rfl Bs l.length ks f n rfl _ _ rfl rfl rfl (by simp) (by have := Q2.out; omega) ?_
      iterate 2 (first | go_big_quiet_step (fail) | quiet_step (fail))
      refine wpQuiet_nil ?_
      rintro _ ⟨nq, rfl⟩
      have hm := HK.out.meth
      have hcf := HK.out.call
      clear mr ms m0
      go_wp2_with fail
      clear hm hcf
      refine (HK.out.add (c := (c : Int)) (bd := bd) (od := od) (n := n) (cd := cd) (D := Wr.wr D od (sumK row srcs f n i)) (l := (l.drop f).take n) (HB.out.keep (S2.out.drewN (n := nq)) (fun e he x hx => by rw [List.mem_singleton] at hx; subst hx; exact fun h => HNE.out e he h.symm)) HNE.out c0 c1 ((S2.out.drewN (n := nq)).blkW mem0) (by rw [wr_length]; exact HO.out) (by rw [List.length_take, List.length_drop]; have := Q2.out; omega) (Q1.out.piece f n) HX8.out hcd (by have := Q2.out; omega) (by omega) (.inl ⟨?_, OS.out.cut⟩)).mono ?_
      · have := Rd.cut RS.out ks f n hks
        exact this
      rintro e w3 ⟨rfl, hh⟩
      have h3 := (S2.out.drewN (n := nq)).callW (W1 := []) hh
      rw [Int.toNat_natCast, HX.out] at h3
      have S3 := Lib.hid h3
      clear hh h3 S2
      go_wp2_with fail
      refine ⟨⟨i + 1, by omega, by simp, S3.out⟩, ?_⟩
      simp [intOf]; omega
    · obtain rfl : i = k := by omega
      go_wp2_with fail
      go_end0
      refine ⟨rfl, ?_⟩
      have := S2.out
      unfold sumL
      rw [HKL.out]
      exact this

end Go.Proofs.Ytdlmkhlkgklkaaa.Sk

namespace Go.Proofs.Ytdlmkhlkgklkaaa.Sk
set_option linter.unusedSimpArgs false
set_option linter.unusedVariables false
open Go Go.RowKit Go.Proofs.Ytdlmkhlkgklkaaa Go.Proofs.Ytdlmkhlkgklkaaa.Mm Go.Proofs.Ytdlmkhlkgklkaaa.Gf Go.Proofs.Ytdlmkhlkgklkaaa.Wr Go.Proofs.Ytdlmkhlkgklkaaa.Nb Go.Proofs.Ytdlmkhlkgklkaaa.St

/-- The lists are not longer than memory. -/
def Fit (L : List (List Nat)) : Prop := L.length * 24 ≤ 140737488351232 ∧ ∀ l ∈ L, l.length ≤ 140737488351232
theorem Fit.get {L : List (List Nat)} (h : Fit L) (i : Nat) : (L.getD i []).length ≤ 140737488351232 := by
  by_cases hi : i < L.length
  · have e : L.getD i [] = L[i] := by simp [hi]
    rw [e]; exact h.2 _ (List.getElem_mem _)
  · simp [hi]
theorem take_snocL {L : List (List Nat)} {i : Nat} (hi : i < L.length) : L.take (i + 1) = L.take i ++ [L.getD i []] := by
  rw [List.take_succ_eq_append_getElem hi]; simp [hi]

end Go.Proofs.Ytdlmkhlkgklkaaa.Sk

namespace Go.Proofs.Ytdlmkhlkgklkaaa.Sk
set_option linter.unusedSimpArgs false
set_option linter.unusedVariables false
open Go Go.RowKit Go.Proofs.Ytdlmkhlkgklkaaa Go.Proofs.Ytdlmkhlkgklkaaa.Mm Go.Proofs.Ytdlmkhlkgklkaaa.Gf Go.Proofs.Ytdlmkhlkgklkaaa.Wr Go.Proofs.Ytdlmkhlkgklkaaa.Nb Go.Proofs.Ytdlmkhlkgklkaaa.St

/-- All lists are lists of bytes. -/
def B8L (L : List (List Nat)) : Prop := ∀ l ∈ L, B8 l
theorem B8L.get {L : List (List Nat)} (h : B8L L) (i : Nat) : B8 (L.getD i []) := by
  by_cases hi : i < L.length
  · have e : L.getD i [] = L[i] := by simp [hi]
    rw [e]; exact h _ (List.getElem_mem _)
  · simp [hi]; exact fun x hx => by simp at hx
theorem Bool.two (b : Bool) : b = true ∨ b = false := by cases b <;> simp

def rngE (f t n : Int) : Int := if 0 ≤ f ∧ f ≤ t ∧ t ≤ n then 0 else 7

end Go.Proofs.Ytdlmkhlkgklkaaa.Sk

namespace Go.Proofs.Ytdlmkhlkgklkaaa.Sk
set_option linter.unusedSimpArgs false
set_option linter.unusedVariables false
open Go Go.RowKit Go.Proofs.Ytdlmkhlkgklkaaa Go.Proofs.Ytdlmkhlkgklkaaa.Mm Go.Proofs.Ytdlmkhlkgklkaaa.Gf Go.Proofs.Ytdlmkhlkgklkaaa.Wr Go.Proofs.Ytdlmkhlkgklkaaa.Nb Go.Proofs.Ytdlmkhlkgklkaaa.St

/-- All lists are as long as the first. -/
def Same (X : List (List Nat)) : Prop := ∀ x ∈ X, x.length = (X.getD 0 []).length
instance (X : List (List Nat)) : Decidable (Same X) := by unfold Same; infer_instance
def lenM (X : List (List Nat)) : Nat := (X.getD 0 []).length
def lenX (X : List (List Nat)) : Int := if X = [] then -1 else (lenM X : Int)
def LenOk (rows srcs dsts : List (List Nat)) : Prop := rows.length = dsts.length ∧ (∀ r ∈ rows, r.length = srcs.length) ∧ Same (srcs ++ dsts)
instance (rows srcs dsts : List (List Nat)) : Decidable (LenOk rows srcs dsts) := by unfold LenOk; infer_instance
/-- What Apply and Agrees refuse. -/
def fitsE (rows srcs dsts : List (List Nat)) (f t : Int) : Int := if LenOk rows srcs dsts then rngE f t (lenM (srcs ++ dsts)) else 6
theorem Same.nil : Same [] := fun x h => by simp at h
theorem Same.one (l : List Nat) : Same ([] ++ [l]) := fun x h => by
  have : x = l := by simpa using h
  rw [this]; rfl
theorem lenX_one (l : List Nat) : lenX ([] ++ [l]) = (l.length : Int) := by unfold lenX lenM; simp
theorem getD0 {Z R : List (List Nat)} (h : Z ≠ []) : (Z ++ R).getD 0 [] = Z.getD 0 [] := by
  cases Z with
  | nil => exact (h rfl).elim
  | cons a Z => rfl
theorem lenX_snoc {Z : List (List Nat)} {l : List Nat} (h : Z ≠ []) : lenX (Z ++ [l]) = lenX Z := by
  unfold lenX lenM
  rw [if_neg h, if_neg (by simp), getD0 h]
theorem lenX_of {Z : List (List Nat)} (h : Z ≠ []) : lenX Z = (lenM Z : Int) := by unfold lenX; rw [if_neg h]
theorem Same.snoc {Z : List (List Nat)} {l : List Nat} (h : Z ≠ []) (hs : Same Z) (hl : l.length = lenM Z) : Same (Z ++ [l]) := by
  intro x hx
  rw [getD0 h]
  rcases List.mem_append.1 hx with hx | hx
  · exact hs x hx
  · have : x = l := by simpa using hx
    rw [this]; exact hl
theorem Same.last {Z R : List (List Nat)} {l : List Nat} (h : Z ≠ []) (hs : Same (Z ++ ([l] ++ R))) : l.length = lenM Z := by
  have := hs l (by simp)
  rw [getD0 h] at this
  exact this
theorem take_drop1 {Y : List (List Nat)} {k : Nat} (h : k < Y.length) : Y.take k ++ ([Y.getD k []] ++ Y.drop (k + 1)) = Y := by
  have e : Y.getD k [] = Y[k] := by simp [h]
  rw [e]
  have := List.take_append_drop k Y
  rw [List.drop_eq_getElem_cons h] at this
  exact this
/-- What has been looked at ahead of the j-th list of lists. -/
def cat (srcs dsts : List (List Nat)) : Nat → List (List Nat)
  | 0 => []
  | 1 => srcs
  | _ => srcs ++ dsts

end Go.Proofs.Ytdlmkhlkgklkaaa.Sk
