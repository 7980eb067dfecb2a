/- Words on bits: what the model's and, or, xor, shifts of whole numbers come to on natural numbers. Plain Lean. -/
import Derived.Laws.BitsLemmas
import Derived.IntWalk
namespace Go.Proofs.Ytdbfkjhdnbmpeaa.Bt
set_option linter.unusedSimpArgs false
set_option linter.unusedVariables false
open Go

theorem wrap_u64 (n : Int) (h0 : 0 ≤ n) (h1 : n < 18446744073709551616) : IntKind.u64.wrap n = n := by
  simp [IntKind.wrap, IntKind.bits, IntKind.signed]; omega
theorem wrap_u16 (n : Int) (h0 : 0 ≤ n) (h1 : n < 65536) : IntKind.u16.wrap n = n := by
  simp [IntKind.wrap, IntKind.bits, IntKind.signed]; omega
theorem wrap_u8 (a : Nat) (h : a < 256) : (a : Int) % 256 = a := by omega
theorem wrap_i64 (n : Int) (h0 : 0 ≤ n) (h1 : n < 9223372036854775808) : IntKind.i64.wrap n = n := by
  rw [IntKind.wrap_i64]; omega

/-- Each of the four words on naturals below the kind's bound. -/
theorem bits_all (k : IntKind) (j : Nat) (hj : j ≤ k.bits) (hk : ∀ n : Int, 0 ≤ n → n < 2 ^ j → k.wrap n = n) (a b : Nat) (ha : a < 2 ^ j) (hb : b < 2 ^ j) :
    bits .xor k a b = ((a ^^^ b : Nat) : Int) := by
  have hp : 2 ^ j ≤ 2 ^ k.bits := Nat.pow_le_pow_right (by decide) hj
  have ha' : a % 2 ^ k.bits = a := Nat.mod_eq_of_lt (Nat.lt_of_lt_of_le ha hp)
  have hb' : b % 2 ^ k.bits = b := Nat.mod_eq_of_lt (Nat.lt_of_lt_of_le hb hp)
  have cast : ∀ n : Nat, n < 2 ^ j → ((n : Nat) : Int) < 2 ^ j := fun n h => by exact_mod_cast h
  simp only [bits, BitVec.ofInt_natCast, BitVec.toNat_xor, BitVec.toNat_ofNat, ha', hb']
  exact hk _ (Int.natCast_nonneg _) (cast _ (Nat.xor_lt_two_pow ha hb))

theorem two8 : (2 : Int) ^ 8 = 256 := by decide
theorem two16 : (2 : Int) ^ 16 = 65536 := by decide
theorem two63 : (2 : Int) ^ 63 = 9223372036854775808 := by decide
theorem two64 : (2 : Int) ^ 64 = 18446744073709551616 := by decide
theorem ok8 (n : Int) (h0 : 0 ≤ n) (h1 : n < 2 ^ 8) : IntKind.u8.wrap n = n := wraps_u8 n h0 h1
theorem ok16 (n : Int) (h0 : 0 ≤ n) (h1 : n < 2 ^ 16) : IntKind.u16.wrap n = n := wrap_u16 n h0 (by rw [two16] at h1; exact h1)
theorem ok63 (n : Int) (h0 : 0 ≤ n) (h1 : n < 2 ^ 63) : IntKind.i64.wrap n = n := wrap_i64 n h0 (by rw [two63] at h1; exact h1)
theorem ok64 (n : Int) (h0 : 0 ≤ n) (h1 : n < 2 ^ 64) : IntKind.u64.wrap n = n := wrap_u64 n h0 (by rw [two64] at h1; exact h1)

theorem xor8 {a b : Nat} (ha : a < 256) (hb : b < 256) : bits .xor .u8 (a : Int) (b : Int) = ((a ^^^ b : Nat) : Int) := bits_all .u8 8 (by decide) ok8 a b ha hb
theorem xor16 {a b : Nat} (ha : a < 65536) (hb : b < 65536) : bits .xor .u16 (a : Int) (b : Int) = ((a ^^^ b : Nat) : Int) := bits_all .u16 16 (by decide) ok16 a b ha hb
theorem xor64 {a b : Nat} (ha : a < 2 ^ 64) (hb : b < 2 ^ 64) : bits .xor .u64 (a : Int) (b : Int) = ((a ^^^ b : Nat) : Int) := bits_all .u64 64 (by decide) ok64 a b ha hb
theorem xori64 {a b : Nat} (ha : a < 2 ^ 63) (hb : b < 2 ^ 63) : bits .xor .i64 (a : Int) (b : Int) = ((a ^^^ b : Nat) : Int) := bits_all .i64 63 (by decide) ok63 a b ha hb
theorem and8 {a b : Nat} (ha : a < 256) (hb : b < 256) : bits .and .u8 (a : Int) (b : Int) = ((a &&& b : Nat) : Int) := (bits_nat .u8 8 (by decide) ok8 a b ha hb).1
theorem or8 {a b : Nat} (ha : a < 256) (hb : b < 256) : bits .or .u8 (a : Int) (b : Int) = ((a ||| b : Nat) : Int) := (bits_nat .u8 8 (by decide) ok8 a b ha hb).2
theorem and16 {a b : Nat} (ha : a < 65536) (hb : b < 65536) : bits .and .u16 (a : Int) (b : Int) = ((a &&& b : Nat) : Int) := (bits_nat .u16 16 (by decide) ok16 a b ha hb).1
theorem or16 {a b : Nat} (ha : a < 65536) (hb : b < 65536) : bits .or .u16 (a : Int) (b : Int) = ((a ||| b : Nat) : Int) := (bits_nat .u16 16 (by decide) ok16 a b ha hb).2
theorem and64 {a b : Nat} (ha : a < 2 ^ 64) (hb : b < 2 ^ 64) : bits .and .u64 (a : Int) (b : Int) = ((a &&& b : Nat) : Int) := (bits_nat .u64 64 (by decide) ok64 a b ha hb).1
theorem or64 {a b : Nat} (ha : a < 2 ^ 64) (hb : b < 2 ^ 64) : bits .or .u64 (a : Int) (b : Int) = ((a ||| b : Nat) : Int) := (bits_nat .u64 64 (by decide) ok64 a b ha hb).2
theorem andi64 {a b : Nat} (ha : a < 2 ^ 63) (hb : b < 2 ^ 63) : bits .and .i64 (a : Int) (b : Int) = ((a &&& b : Nat) : Int) := (bits_nat .i64 63 (by decide) ok63 a b ha hb).1
theorem ori64 {a b : Nat} (ha : a < 2 ^ 63) (hb : b < 2 ^ 63) : bits .or .i64 (a : Int) (b : Int) = ((a ||| b : Nat) : Int) := (bits_nat .i64 63 (by decide) ok63 a b ha hb).2

theorem wu8 {n : Nat} (h : n < 256) : IntKind.u8.wrap (n : Int) = (n : Int) := ok8 _ (Int.natCast_nonneg _) (by rw [two8]; omega)
theorem wu16 {n : Nat} (h : n < 65536) : IntKind.u16.wrap (n : Int) = (n : Int) := ok16 _ (Int.natCast_nonneg _) (by rw [two16]; omega)

/-- As 'Option.bind_some', but no definitional one: the kernel then compares nothing. -/
theorem obs {α β : Type} (x : α) (f : α → Option β) : (some x).bind f = f x := by
  have h : ∀ o : Option α, o = some x → o.bind f = f x := by intro o ho; subst ho; rfl
  exact h _ rfl

/-- A byte's number. -/
theorem byte_of {x : Int} (h : (Lit.int .u8 x).wf = true) : ∃ a : Nat, x = (a : Int) ∧ a < 256 := by
  have h' : 0 ≤ x ∧ x < 256 := by
    simp [Lit.wf, IntKind.min, IntKind.max, IntKind.bits, IntKind.signed] at h
    omega
  exact ⟨x.toNat, by omega, by omega⟩

end Go.Proofs.Ytdbfkjhdnbmpeaa.Bt
