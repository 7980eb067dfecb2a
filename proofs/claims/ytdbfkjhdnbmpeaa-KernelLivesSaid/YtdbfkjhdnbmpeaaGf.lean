/- The field of 256 elements on natural numbers: the product by shifts, that it is bilinear, commutative, associative, and what powers come to. Plain Lean, no program in sight. -/
namespace Go.Proofs.Ytdbfkjhdnbmpeaa.Gf
set_option linter.unusedSimpArgs false
set_option linter.unusedVariables false

/-- One shift by the modulus. -/
def xt (a : Nat) : Nat := if a < 128 then 2 * a else (2 * a) ^^^ 285

/-- The loop of the product: `n` rounds. -/
def ml : Nat → Nat → Nat → Nat → Nat
  | 0, _, _, p => p
  | n + 1, a, b, p => ml n (xt a) (b / 2) (if b % 2 = 1 then p ^^^ a else p)

/-- The product. -/
def gm (a b : Nat) : Nat := ml 8 a b 0

theorem xt_lt {a : Nat} (h : a < 256) : xt a < 256 := by
  unfold xt
  split
  · omega
  · have h1 : (2 * a) ^^^ 285 = ((2 * a - 256) ^^^ 29) := by
      have hh : ∀ x : Fin 256, 128 ≤ x.val → (2 * x.val) ^^^ 285 = ((2 * x.val - 256) ^^^ 29) := by decide +kernel
      exact hh ⟨a, h⟩ (by show 128 ≤ a; omega)
    rw [h1]
    exact Nat.xor_lt_two_pow (n := 8) (by omega) (by omega)

theorem xor_lt {a b : Nat} (h : a < 256) (g : b < 256) : a ^^^ b < 256 := Nat.xor_lt_two_pow (n := 8) h g

theorem ml_lt : ∀ (n : Nat) {a b p : Nat}, a < 256 → p < 256 → ml n a b p < 256
  | 0, _, _, _, _, hp => hp
  | n + 1, a, b, p, ha, hp => by
    unfold ml
    refine ml_lt n (xt_lt ha) ?_
    split
    · exact xor_lt hp ha
    · exact hp

theorem gm_lt {a : Nat} (b : Nat) (h : a < 256) : gm a b < 256 := ml_lt 8 h (by decide)

theorem ml_acc : ∀ (n a b p q : Nat), ml n a b (p ^^^ q) = ml n a b p ^^^ q
  | 0, _, _, _, _ => rfl
  | n + 1, a, b, p, q => by
    unfold ml
    rw [← ml_acc n]
    congr 1
    split
    · rw [Nat.xor_assoc, Nat.xor_assoc, Nat.xor_comm q a]
    · rfl

theorem xor_mod_two (b c : Nat) : (b ^^^ c) % 2 = (b % 2 + c % 2) % 2 := by
  have h := Nat.xor_mod_two_pow (a := b) (b := c) (n := 1)
  simp only [Nat.pow_one] at h
  rw [h]
  rcases Nat.mod_two_eq_zero_or_one b with hb | hb <;> rcases Nat.mod_two_eq_zero_or_one c with hc | hc <;> rw [hb, hc] <;> rfl

theorem xor_div_two (b c : Nat) : (b ^^^ c) / 2 = b / 2 ^^^ c / 2 := by
  have h := Nat.shiftRight_xor_distrib (a := b) (b := c) (i := 1)
  simpa [Nat.shiftRight_succ] using h

theorem ml_right : ∀ (n a b c p q : Nat), ml n a (b ^^^ c) (p ^^^ q) = ml n a b p ^^^ ml n a c q
  | 0, _, _, _, _, _ => rfl
  | n + 1, a, b, c, p, q => by
    unfold ml
    rw [← ml_right n, xor_div_two]
    congr 1
    rw [xor_mod_two]
    rcases Nat.mod_two_eq_zero_or_one b with hb | hb <;> rcases Nat.mod_two_eq_zero_or_one c with hc | hc <;> simp only [hb, hc] <;> simp
    · rw [Nat.xor_assoc]
    · rw [Nat.xor_assoc, Nat.xor_assoc, Nat.xor_comm q a]
    · rw [Nat.xor_assoc, ← Nat.xor_assoc a q a, Nat.xor_comm a q, Nat.xor_assoc q a a, Nat.xor_self, Nat.xor_zero]

/-- The product is linear in its second factor. -/
theorem gm_right (a b c : Nat) : gm a (b ^^^ c) = gm a b ^^^ gm a c := by
  have := ml_right 8 a b c 0 0
  simpa [gm] using this

theorem xt_xor {a b : Nat} (ha : a < 256) (hb : b < 256) : xt (a ^^^ b) = xt a ^^^ xt b := by
  have hh : ∀ x : Nat, x < 256 → xt x = (2 * x) ^^^ (285 * (x / 128)) := by
    intro x hx
    unfold xt
    split
    · have : x / 128 = 0 := by omega
      rw [this]; simp
    · have : x / 128 = 1 := by omega
      rw [this]
  rw [hh _ ha, hh _ hb, hh _ (xor_lt ha hb)]
  have h2 : ∀ x y : Nat, 2 * (x ^^^ y) = (2 * x) ^^^ (2 * y) := by
    intro x y
    have h := Nat.shiftLeft_xor_distrib (a := x) (b := y) (i := 1)
    simpa [Nat.shiftLeft_eq, Nat.mul_comm] using h
  have h3 : (a ^^^ b) / 128 = a / 128 ^^^ b / 128 := by
    have h := Nat.shiftRight_xor_distrib (a := a) (b := b) (i := 7)
    simpa [Nat.shiftRight_eq_div_pow] using h
  rw [h2, h3]
  have ea : a / 128 = 0 ∨ a / 128 = 1 := by omega
  have eb : b / 128 = 0 ∨ b / 128 = 1 := by omega
  rcases ea with ea | ea <;> rcases eb with eb | eb <;> rw [ea, eb] <;> simp
  · rw [Nat.xor_assoc]
  · rw [Nat.xor_assoc, Nat.xor_assoc, Nat.xor_comm 285]
  · rw [Nat.xor_assoc, ← Nat.xor_assoc 285, Nat.xor_comm 285 (2 * b), Nat.xor_assoc (2 * b), Nat.xor_self, Nat.xor_zero]

theorem ml_left : ∀ (n a c b p q : Nat), a < 256 → c < 256 → ml n (a ^^^ c) b (p ^^^ q) = ml n a b p ^^^ ml n c b q
  | 0, _, _, _, _, _, _, _ => rfl
  | n + 1, a, c, b, p, q, ha, hc => by
    unfold ml
    rw [← ml_left n _ _ _ _ _ (xt_lt ha) (xt_lt hc), xt_xor ha hc]
    congr 1
    split
    · rw [Nat.xor_assoc, Nat.xor_assoc, ← Nat.xor_assoc q a c, ← Nat.xor_assoc a q c, Nat.xor_comm q a]
    · rfl

/-- The product is linear in its first factor. -/
theorem gm_left {a c : Nat} (b : Nat) (ha : a < 256) (hc : c < 256) : gm (a ^^^ c) b = gm a b ^^^ gm c b := by
  have := ml_left 8 a c b 0 0 ha hc
  simpa [gm] using this

/-- A linear function is known by what it makes of the single bits. -/
theorem linear_ext {f g : Nat → Nat} (hf : ∀ x y, x < 256 → y < 256 → f (x ^^^ y) = f x ^^^ f y) (hg : ∀ x y, x < 256 → y < 256 → g (x ^^^ y) = g x ^^^ g y)
    (h : ∀ i : Fin 8, f (2 ^ i.val) = g (2 ^ i.val)) : ∀ x, x < 256 → f x = g x := by
  have f0 : f 0 = 0 := by have := hf 0 0 (by decide) (by decide); simpa using this
  have g0 : g 0 = 0 := by have := hg 0 0 (by decide) (by decide); simpa using this
  have key : ∀ n, n ≤ 8 → ∀ x, x < 2 ^ n → f x = g x := by
    intro n
    induction n with
    | zero => intro _ x hx; have : x = 0 := by simp at hx; exact hx
              rw [this, f0, g0]
    | succ n ih =>
      intro hn x hx
      by_cases hlt : x < 2 ^ n
      · exact ih (by omega) x hlt
      · have hle : 2 ^ n ≤ 128 := by
          have := Nat.pow_le_pow_right (n := 2) (by decide) (show n ≤ 7 by omega)
          simpa using this
        have hp : (2 : Nat) ^ (n + 1) = 2 ^ n + 2 ^ n := by rw [Nat.pow_succ]; omega
        have hy : x - 2 ^ n < 2 ^ n := by omega
        have hx' : x = 2 ^ n ^^^ (x - 2 ^ n) := by
          have h1 : 2 ^ n + (x - 2 ^ n) = 2 ^ n ||| (x - 2 ^ n) := by
            have := Nat.two_pow_add_eq_or_of_lt (b := x - 2 ^ n) (i := n) hy 1
            simpa using this
          have h2 : 2 ^ n ^^^ (x - 2 ^ n) = 2 ^ n ||| (x - 2 ^ n) := by
            apply Nat.eq_of_testBit_eq
            intro j
            rw [Nat.testBit_xor, Nat.testBit_or, Nat.testBit_two_pow]
            by_cases hj : n = j
            · subst hj
              rw [Nat.testBit_lt_two_pow hy]; simp
            · simp [hj]
          omega
        rw [hx', hf _ _ (by omega) (by omega), hg _ _ (by omega) (by omega), ih (by omega) _ hy]
        have := h ⟨n, by omega⟩
        rw [show f (2 ^ n) = g (2 ^ n) from this]
  intro x hx
  exact key 8 (by decide) x (by simpa using hx)

theorem gm_comm {a b : Nat} (ha : a < 256) (hb : b < 256) : gm a b = gm b a := by
  refine linear_ext (f := fun b => gm a b) (g := fun b => gm b a) (fun x y _ _ => gm_right a x y) (fun x y hx hy => gm_left a hx hy) (fun i => ?_) b hb
  refine linear_ext (f := fun a => gm a (2 ^ i.val)) (g := fun a => gm (2 ^ i.val) a) (fun x y hx hy => gm_left _ hx hy) (fun x y _ _ => gm_right _ x y) (fun j => ?_) a ha
  revert i j
  decide +kernel

theorem pow_lt (i : Fin 8) : 2 ^ i.val < 256 := by revert i; decide

theorem gm_assoc {a b c : Nat} (ha : a < 256) (hb : b < 256) (hc : c < 256) : gm (gm a b) c = gm a (gm b c) := by
  refine linear_ext (f := fun c => gm (gm a b) c) (g := fun c => gm a (gm b c)) (fun x y _ _ => gm_right _ x y) (fun x y _ _ => by show gm a (gm b (x ^^^ y)) = _; rw [gm_right, gm_right]) (fun i => ?_) c hc
  refine linear_ext (f := fun b => gm (gm a b) (2 ^ i.val)) (g := fun b => gm a (gm b (2 ^ i.val))) (fun x y hx hy => by show gm (gm a (x ^^^ y)) _ = _; rw [gm_right, gm_left _ (gm_lt _ ha) (gm_lt _ ha)])
    (fun x y hx hy => by show gm a (gm (x ^^^ y) _) = _; rw [gm_left _ hx hy, gm_right]) (fun j => ?_) b hb
  refine linear_ext (f := fun a => gm (gm a (2 ^ j.val)) (2 ^ i.val)) (g := fun a => gm a (gm (2 ^ j.val) (2 ^ i.val)))
    (fun x y hx hy => by show gm (gm (x ^^^ y) _) _ = _; rw [gm_left _ hx hy, gm_left _ (gm_lt _ hx) (gm_lt _ hy)])
    (fun x y hx hy => gm_left _ hx hy) (fun k => ?_) a ha
  revert i j k
  decide +kernel

theorem gm_one {a : Nat} (ha : a < 256) : gm a 1 = a := by
  have hh : ∀ x : Fin 256, gm x.val 1 = x.val := by decide +kernel
  exact hh ⟨a, ha⟩

theorem one_gm {a : Nat} (ha : a < 256) : gm 1 a = a := by rw [gm_comm (by decide) ha, gm_one ha]

theorem ml_zero_left : ∀ (n b p : Nat), ml n 0 b p = p
  | 0, _, _ => rfl
  | n + 1, b, p => by unfold ml; rw [show xt 0 = 0 from rfl]; rw [ml_zero_left n]; split <;> simp
theorem gm_zero_left (b : Nat) : gm 0 b = 0 := ml_zero_left 8 b 0
theorem ml_zero_right : ∀ (n a p : Nat), ml n a 0 p = p
  | 0, _, _ => rfl
  | n + 1, a, p => by unfold ml; simp; exact ml_zero_right n _ p
theorem gm_zero_right (a : Nat) : gm a 0 = 0 := ml_zero_right 8 a 0

theorem gm_two {a : Nat} (ha : a < 256) : gm 2 a = xt a := by
  have hh : ∀ x : Fin 256, gm 2 x.val = xt x.val := by decide +kernel
  exact hh ⟨a, ha⟩
theorem gm_two' {a : Nat} (ha : a < 256) : gm a 2 = xt a := by rw [gm_comm ha (by decide), gm_two ha]

/-- The product of n factors. -/
def pw (a : Nat) : Nat → Nat
  | 0 => 1
  | n + 1 => gm (pw a n) a

theorem pw_lt {a : Nat} (ha : a < 256) : ∀ n, pw a n < 256
  | 0 => by show 1 < 256; decide
  | n + 1 => gm_lt _ (pw_lt ha n)

theorem pw_add {a : Nat} (ha : a < 256) (m : Nat) : ∀ n, pw a (m + n) = gm (pw a m) (pw a n)
  | 0 => (gm_one (pw_lt ha m)).symm
  | n + 1 => by
    show gm (pw a (m + n)) a = gm (pw a m) (gm (pw a n) a)
    rw [pw_add ha m n, gm_assoc (pw_lt ha m) (pw_lt ha n) ha]

theorem pw_one {a : Nat} (ha : a < 256) : pw a 1 = a := one_gm ha

theorem pw_sq {a : Nat} (ha : a < 256) (n : Nat) : pw (gm a a) n = pw a (2 * n) := by
  induction n with
  | zero => rfl
  | succ n ih =>
    rw [show 2 * (n + 1) = (2 * n + 1) + 1 from by omega]
    show gm (pw (gm a a) n) (gm a a) = gm (gm (pw a (2 * n)) a) a
    rw [ih, gm_assoc (pw_lt ha _) ha ha]

theorem pw_zero_base (n : Nat) (h : 0 < n) : pw 0 n = 0 := by
  cases n with
  | zero => omega
  | succ n => exact gm_zero_right _

/-- The powers by squaring, as the program goes: from accumulator p. -/
def sq : Nat → Nat → Nat → Nat → Nat
  | 0, _, _, p => p
  | n + 1, a, r, p => sq n (gm a a) (r / 2) (if r % 2 = 1 then gm p a else p)

theorem sq_eq : ∀ (n a r p : Nat), a < 256 → p < 256 → r < 2 ^ n → sq n a r p = gm p (pw a r)
  | 0, a, r, p, _, hp, hr => by have : r = 0 := by simpa using hr
                                subst this; exact (gm_one hp).symm
  | n + 1, a, r, p, ha, hp, hr => by
    unfold sq
    have hr2 : r / 2 < 2 ^ n := by rw [Nat.pow_succ] at hr; omega
    rw [sq_eq n _ _ _ (gm_lt _ ha) (by split; exact gm_lt _ hp; exact hp) hr2, pw_sq ha]
    split
    · rename_i h
      have hr' : r = 1 + 2 * (r / 2) := by omega
      rw [gm_assoc hp ha (pw_lt ha _)]
      rw [show pw a r = pw a (1 + 2 * (r / 2)) from by rw [← hr'], pw_add ha, pw_one ha]
    · have hr' : r = 2 * (r / 2) := by omega
      rw [← hr']

theorem sq_pw {n a r : Nat} (ha : a < 256) (hr : r < 2 ^ n) : sq n a r 1 = pw a r := by
  rw [sq_eq n a r 1 ha (by decide) hr, one_gm (pw_lt ha r)]

theorem pw255 {a : Nat} (ha : a < 256) (h0 : a ≠ 0) : pw a 255 = 1 := by
  rw [← sq_pw (n := 8) ha (by decide)]
  have hh : ∀ x : Fin 256, x.val ≠ 0 → sq 8 x.val 255 1 = 1 := by decide +kernel
  exact hh ⟨a, ha⟩ h0

theorem inv_gm {a : Nat} (ha : a < 256) (h0 : a ≠ 0) : gm a (pw a 254) = 1 := by
  rw [gm_comm ha (pw_lt ha _)]
  exact pw255 ha h0

theorem pw_mod {a : Nat} (ha : a < 256) (h0 : a ≠ 0) (n : Nat) : pw a n = pw a (n % 255) := by
  have key : ∀ q r, pw a (255 * q + r) = pw a r := by
    intro q
    induction q with
    | zero => intro r; simp
    | succ q ih =>
      intro r
      rw [show 255 * (q + 1) + r = 255 + (255 * q + r) from by omega, pw_add ha, pw255 ha h0, ih, one_gm (pw_lt ha r)]
  have := key (n / 255) (n % 255)
  rw [Nat.div_add_mod] at this
  exact this

theorem gm_ne_zero {a b : Nat} (ha : a < 256) (hb : b < 256) (h0 : a ≠ 0) (h : gm a b = 0) : b = 0 := by
  have h1 : gm (pw a 254) (gm a b) = b := by
    rw [← gm_assoc (pw_lt ha _) ha hb, gm_comm (pw_lt ha _) ha, inv_gm ha h0, one_gm hb]
  rw [h, gm_zero_right] at h1
  exact h1.symm

theorem pw_xor_two {a b : Nat} (ha : a < 256) (hb : b < 256) : pw (a ^^^ b) 2 = pw a 2 ^^^ pw b 2 := by
  have e : ∀ x, x < 256 → pw x 2 = gm x x := fun x hx => by show gm (gm 1 x) x = _; rw [one_gm hx]
  rw [e _ ha, e _ hb, e _ (xor_lt ha hb), gm_right, gm_left _ ha hb, gm_left _ ha hb, gm_comm hb ha]
  rw [Nat.xor_assoc, ← Nat.xor_assoc (gm a b) (gm a b), Nat.xor_self, Nat.zero_xor]

/-- What Inv, Div, Pow answer: an element and an error's number. -/
def iv (a : Nat) : Nat × Int := if a = 0 then (0, 20) else (pw a 254, 0)
def dv (a b : Nat) : Nat × Int := if b = 0 then (0, 20) else (gm a (pw b 254), 0)
def po (a : Nat) (n : Int) : Nat × Int := if n = 0 then (1, 0) else if a = 0 then (if 0 < n then (0, 0) else (0, 20)) else (pw a (n % 255).toNat, 0)
theorem iv_lt {a : Nat} (ha : a < 256) : (iv a).1 < 256 := by
  unfold iv; split; decide; exact pw_lt ha _

end Go.Proofs.Ytdbfkjhdnbmpeaa.Gf
