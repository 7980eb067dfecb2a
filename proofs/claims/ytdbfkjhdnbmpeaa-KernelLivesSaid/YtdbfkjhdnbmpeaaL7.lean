/- Lemmas for the laws of layer 6. -/
import Derived.Test.YtdbfkjhdnbmpeaaL6
import Derived.Test.YtdbfkjhdnbmpeaaG9
namespace Go.Proofs.Ytdbfkjhdnbmpeaa.L6
set_option linter.unusedSimpArgs false
set_option linter.unusedVariables false
open Go Go.RowKit Go.Proofs.Ytdbfkjhdnbmpeaa Go.Proofs.Ytdbfkjhdnbmpeaa.Mm Go.Proofs.Ytdbfkjhdnbmpeaa.Gf Go.Proofs.Ytdbfkjhdnbmpeaa.Wr Go.Proofs.Ytdbfkjhdnbmpeaa.Nb

/-- A slice argument of bytes, opened. -/
theorem open_bytes {B : Nat} {w : World} {A : Option Addr} {n c : Nat} {l : List Nat} (h : (Kk.kSlice Kk.kByte 1).ok B w [.slice A n c] l) : l.length = n ∧ n ≤ 140737488351232 ∧ n ≤ c ∧ Rd w A l ∧ B8 l ∧ (∀ a, A = some a → 0 < n → a.block < B) := by
  obtain ⟨A', c', he, hlc, _, hr, hrow⟩ := h
  injection he with he _
  injection he with e1 e2 e3
  subst e1 e2 e3
  refine ⟨rfl, by unfold reachBytes at hr; omega, hlc, fun h0 => ?_, fun x hx => ?_, fun a ha h0 => ?_⟩
  · obtain ⟨b, off, hA, _, hc⟩ := hrow h0
    refine ⟨b, off, hA, fun i hi => ?_⟩
    obtain ⟨cs, ⟨rfl, _⟩, hcell⟩ := hc i hi
    have := hcell 0 _ rfl
    have e : l.getD i 0 = l[i] := by simp [hi]
    rw [e]
    simpa [Kk.kByte] using this
  · obtain ⟨i, hi, rfl⟩ := List.getElem_of_mem hx
    obtain ⟨b, off, hA, _, hc⟩ := hrow (by omega)
    obtain ⟨cs, ⟨_, hok⟩, _⟩ := hc i hi
    exact hok
  · obtain ⟨b, off, hA, hb, _⟩ := hrow h0
    rw [hA] at ha
    injection ha with ha
    rw [← ha]; exact hb

/-- A list of n zeros is made: the step by itself. -/
theorem mk_run {P : Program} (t e : TypeId) (k kx ky : IntKind) (n c bytes : Nat) (W : World)
    (ht : P.underlying t = some (.slice e)) (hinfo : (P.info? e).map (fun i => (i.zero, i.size, i.bytes)) = some (some (.int k 0), 1, bytes)) (hn : n ≤ c) (hb : bytes * c ≤ 281474976710656) (hc : c ≤ 9223372036854775807) :
    Sem.run P (Instr.makeSlice t (.int kx (n : Int)) (.int ky (c : Int))) W = .ok (.slice (some ⟨W.heap.size, 0, none⟩) n c) (W.alloc (.cells (row k (List.replicate c 0)) e (0, 0))) := by
  cases hi : P.info? e with
  | none => rw [hi] at hinfo; cases hinfo
  | some i =>
    rw [hi] at hinfo
    simp only [Option.map_some, Option.some.injEq, Prod.mk.injEq] at hinfo
    obtain ⟨hz, hsz, hby⟩ := hinfo
    have hb' : (i.bytes : Int) * (c : Int) ≤ 281474976710656 := by
      rw [hby]
      have h : ((bytes * c : Nat) : Int) ≤ 281474976710656 := by omega
      rwa [Int.natCast_mul] at h
    have hr := run_make (P := P) W t e i (.int k 0) ht hi hz kx ky (n : Int) (c : Int) (by omega) (by omega) hb' (by omega)
    rw [hsz, Int.toNat_natCast, Int.toNat_natCast, Nat.mul_one, row_made] at hr
    exact hr

theorem below_step {w0 w w' : World} (h : Below w0.heap.size w0 w) (k : Below w.heap.size w w') : Below w0.heap.size w0 w' := Below.trans h (k.mono h.size)
theorem shl_byte {x d : Nat} (hd : d < 256) (i : Nat) : ∃ v : Nat, v < 256 ∧ Go.bits .xor .u8 (Go.bits .xor .u8 ((x : Int) * 8 % 256) ((i : Int) % 256)) d = v := by
  have e1 : ((x : Int) * 8 % 256) = ((x * 8 % 256 : Nat) : Int) := by omega
  have e2 : ((i : Int) % 256) = ((i % 256 : Nat) : Int) := by omega
  have h1 : x * 8 % 256 < 256 := Nat.mod_lt _ (by decide)
  have h2 : i % 256 < 256 := Nat.mod_lt _ (by decide)
  refine ⟨_, xor_lt (xor_lt h1 h2) hd, ?_⟩
  rw [e1, e2, Bt.xor8 h1 h2, Bt.xor8 (xor_lt h1 h2) hd]

end Go.Proofs.Ytdbfkjhdnbmpeaa.L6
