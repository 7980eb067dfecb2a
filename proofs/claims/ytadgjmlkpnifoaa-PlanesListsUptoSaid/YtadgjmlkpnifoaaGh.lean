/- The field of 65536 elements on natural numbers: the product by shifts, that it is bilinear, commutative, associative, and what powers come to. Plain Lean, no program in sight. -/
namespace Go.Proofs.Ytadgjmlkpnifoaa.Gh
set_option linter.unusedSimpArgs false
set_option linter.unusedVariables false

/-- One shift by the modulus. -/
def xt (a : Nat) : Nat := if a < 32768 then 2 * a else (2 * a) ^^^ 65581

/-- The loop of the product: `n` rounds. -/
def ml : Nat → Nat → Nat → Nat → Nat
  | 0, _, _, p => p
  | n + 1, a, b, p => ml n (xt a) (b / 2) (if b % 2 = 1 then p ^^^ a else p)

/-- The product. -/
def gm (a b : Nat) : Nat := ml 16 a b 0

theorem pow_xor {k i : Nat} (h : i < 2 ^ k) : 2 ^ k ^^^ i = 2 ^ k + i := by
  have h1 : 2 ^ k + i = 2 ^ k ||| i := by
    have := Nat.two_pow_add_eq_or_of_lt (b := i) (i := k) h 1
    simpa using this
  rw [h1]
  apply Nat.eq_of_testBit_eq
  intro j
  rw [Nat.testBit_xor, Nat.testBit_or, Nat.testBit_two_pow]
  by_cases hj : k = j
  · subst hj; rw [Nat.testBit_lt_two_pow h]; simp
  · simp [hj]
theorem xt_lt {a : Nat} (h : a < 65536) : xt a < 65536 := by
  unfold xt
  split
  · omega
  · have h1 : (2 * a) ^^^ 65581 = ((2 * a - 65536) ^^^ 45) := by
      obtain ⟨y, hy⟩ : ∃ y, 2 * a = 65536 + y := ⟨2 * a - 65536, by omega⟩
      have hy2 : y < 2 ^ 16 := by show _ < 65536; omega
      have e1 : 65536 ^^^ y = 65536 + y := pow_xor hy2
      have e2 : 65536 ^^^ 45 = 65581 := by decide
      rw [hy, show 65536 + y - 65536 = y from by omega, ← e1, ← e2, Nat.xor_comm 65536 y, Nat.xor_assoc, ← Nat.xor_assoc 65536 65536, Nat.xor_self, Nat.zero_xor]
    rw [h1]
    exact Nat.xor_lt_two_pow (n := 16) (by omega) (by omega)

theorem xor_lt {a b : Nat} (h : a < 65536) (g : b < 65536) : a ^^^ b < 65536 := Nat.xor_lt_two_pow (n := 16) h g

theorem ml_lt : ∀ (n : Nat) {a b p : Nat}, a < 65536 → p < 65536 → ml n a b p < 65536
  | 0, _, _, _, _, hp => hp
  | n + 1, a, b, p, ha, hp => by
    unfold ml
    refine ml_lt n (xt_lt ha) ?_
    split
    · exact xor_lt hp ha
    · exact hp

theorem gm_lt {a : Nat} (b : Nat) (h : a < 65536) : gm a b < 65536 := ml_lt 16 h (by decide)

theorem ml_acc : ∀ (n a b p q : Nat), ml n a b (p ^^^ q) = ml n a b p ^^^ q
  | 0, _, _, _, _ => rfl
  | n + 1, a, b, p, q => by
    unfold ml
    rw [← ml_acc n]
    congr 1
    split
    · rw [Nat.xor_assoc, Nat.xor_assoc, Nat.xor_comm q a]
    · rfl

theorem xor_mod_two (b c : Nat) : (b ^^^ c) % 2 = (b % 2 + c % 2) % 2 := by
  have h := Nat.xor_mod_two_pow (a := b) (b := c) (n := 1)
  simp only [Nat.pow_one] at h
  rw [h]
  rcases Nat.mod_two_eq_zero_or_one b with hb | hb <;> rcases Nat.mod_two_eq_zero_or_one c with hc | hc <;> rw [hb, hc] <;> rfl

theorem xor_div_two (b c : Nat) : (b ^^^ c) / 2 = b / 2 ^^^ c / 2 := by
  have h := Nat.shiftRight_xor_distrib (a := b) (b := c) (i := 1)
  simpa [Nat.shiftRight_succ] using h

theorem ml_right : ∀ (n a b c p q : Nat), ml n a (b ^^^ c) (p ^^^ q) = ml n a b p ^^^ ml n a c q
  | 0, _, _, _, _, _ => rfl
  | n + 1, a, b, c, p, q => by
    unfold ml
    rw [← ml_right n, xor_div_two]
    congr 1
    rw [xor_mod_two]
    rcases Nat.mod_two_eq_zero_or_one b with hb | hb <;> rcases Nat.mod_two_eq_zero_or_one c with hc | hc <;> simp only [hb, hc] <;> simp
    · rw [Nat.xor_assoc]
    · rw [Nat.xor_assoc, Nat.xor_assoc, Nat.xor_comm q a]
    · rw [Nat.xor_assoc, ← Nat.xor_assoc a q a, Nat.xor_comm a q, Nat.xor_assoc q a a, Nat.xor_self, Nat.xor_zero]

/-- The product is linear in its second factor. -/
theorem gm_right (a b c : Nat) : gm a (b ^^^ c) = gm a b ^^^ gm a c := by
  have := ml_right 16 a b c 0 0
  simpa [gm] using this

theorem xt_xor {a b : Nat} (ha : a < 65536) (hb : b < 65536) : xt (a ^^^ b) = xt a ^^^ xt b := by
  have hh : ∀ x : Nat, x < 65536 → xt x = (2 * x) ^^^ (65581 * (x / 32768)) := by
    intro x hx
    unfold xt
    split
    · have : x / 32768 = 0 := by omega
      rw [this]; simp
    · have : x / 32768 = 1 := by omega
      rw [this]
  rw [hh _ ha, hh _ hb, hh _ (xor_lt ha hb)]
  have h2 : ∀ x y : Nat, 2 * (x ^^^ y) = (2 * x) ^^^ (2 * y) := by
    intro x y
    have h := Nat.shiftLeft_xor_distrib (a := x) (b := y) (i := 1)
    simpa [Nat.shiftLeft_eq, Nat.mul_comm] using h
  have h3 : (a ^^^ b) / 32768 = a / 32768 ^^^ b / 32768 := by
    have h := Nat.shiftRight_xor_distrib (a := a) (b := b) (i := 15)
    simpa [Nat.shiftRight_eq_div_pow] using h
  rw [h2, h3]
  have ea : a / 32768 = 0 ∨ a / 32768 = 1 := by omega
  have eb : b / 32768 = 0 ∨ b / 32768 = 1 := by omega
  rcases ea with ea | ea <;> rcases eb with eb | eb <;> rw [ea, eb] <;> simp
  · rw [Nat.xor_assoc]
  · rw [Nat.xor_assoc, Nat.xor_assoc, Nat.xor_comm 65581]
  · rw [Nat.xor_assoc, ← Nat.xor_assoc 65581, Nat.xor_comm 65581 (2 * b), Nat.xor_assoc (2 * b), Nat.xor_self, Nat.xor_zero]

theorem ml_left : ∀ (n a c b p q : Nat), a < 65536 → c < 65536 → ml n (a ^^^ c) b (p ^^^ q) = ml n a b p ^^^ ml n c b q
  | 0, _, _, _, _, _, _, _ => rfl
  | n + 1, a, c, b, p, q, ha, hc => by
    unfold ml
    rw [← ml_left n _ _ _ _ _ (xt_lt ha) (xt_lt hc), xt_xor ha hc]
    congr 1
    split
    · rw [Nat.xor_assoc, Nat.xor_assoc, ← Nat.xor_assoc q a c, ← Nat.xor_assoc a q c, Nat.xor_comm q a]
    · rfl

/-- The product is linear in its first factor. -/
theorem gm_left {a c : Nat} (b : Nat) (ha : a < 65536) (hc : c < 65536) : gm (a ^^^ c) b = gm a b ^^^ gm c b := by
  have := ml_left 16 a c b 0 0 ha hc
  simpa [gm] using this

/-- A linear function is known by what it makes of the single bits. -/
theorem linear_ext {f g : Nat → Nat} (hf : ∀ x y, x < 65536 → y < 65536 → f (x ^^^ y) = f x ^^^ f y) (hg : ∀ x y, x < 65536 → y < 65536 → g (x ^^^ y) = g x ^^^ g y)
    (h : ∀ i : Fin 16, f (2 ^ i.val) = g (2 ^ i.val)) : ∀ x, x < 65536 → f x = g x := by
  have f0 : f 0 = 0 := by have := hf 0 0 (by decide) (by decide); simpa using this
  have g0 : g 0 = 0 := by have := hg 0 0 (by decide) (by decide); simpa using this
  have key : ∀ n, n ≤ 16 → ∀ x, x < 2 ^ n → f x = g x := by
    intro n
    induction n with
    | zero => intro _ x hx; have : x = 0 := by simp at hx; exact hx
              rw [this, f0, g0]
    | succ n ih =>
      intro hn x hx
      by_cases hlt : x < 2 ^ n
      · exact ih (by omega) x hlt
      · have hle : 2 ^ n ≤ 32768 := by
          have := Nat.pow_le_pow_right (n := 2) (by decide) (show n ≤ 15 by omega)
          simpa using this
        have hp : (2 : Nat) ^ (n + 1) = 2 ^ n + 2 ^ n := by rw [Nat.pow_succ]; omega
        have hy : x - 2 ^ n < 2 ^ n := by omega
        have hx' : x = 2 ^ n ^^^ (x - 2 ^ n) := by
          have h1 : 2 ^ n + (x - 2 ^ n) = 2 ^ n ||| (x - 2 ^ n) := by
            have := Nat.two_pow_add_eq_or_of_lt (b := x - 2 ^ n) (i := n) hy 1
            simpa using this
          have h2 : 2 ^ n ^^^ (x - 2 ^ n) = 2 ^ n ||| (x - 2 ^ n) := by
            apply Nat.eq_of_testBit_eq
            intro j
            rw [Nat.testBit_xor, Nat.testBit_or, Nat.testBit_two_pow]
            by_cases hj : n = j
            · subst hj
              rw [Nat.testBit_lt_two_pow hy]; simp
            · simp [hj]
          omega
        rw [hx', hf _ _ (by omega) (by omega), hg _ _ (by omega) (by omega), ih (by omega) _ hy]
        have := h ⟨n, by omega⟩
        rw [show f (2 ^ n) = g (2 ^ n) from this]
  intro x hx
  exact key 16 (by decide) x (by simpa using hx)

theorem gm_comm {a b : Nat} (ha : a < 65536) (hb : b < 65536) : gm a b = gm b a := by
  refine linear_ext (f := fun b => gm a b) (g := fun b => gm b a) (fun x y _ _ => gm_right a x y) (fun x y hx hy => gm_left a hx hy) (fun i => ?_) b hb
  refine linear_ext (f := fun a => gm a (2 ^ i.val)) (g := fun a => gm (2 ^ i.val) a) (fun x y hx hy => gm_left _ hx hy) (fun x y _ _ => gm_right _ x y) (fun j => ?_) a ha
  revert i j
  decide +kernel

theorem pow_lt (i : Fin 16) : 2 ^ i.val < 65536 := by revert i; decide

theorem gm_assoc {a b c : Nat} (ha : a < 65536) (hb : b < 65536) (hc : c < 65536) : gm (gm a b) c = gm a (gm b c) := by
  refine linear_ext (f := fun c => gm (gm a b) c) (g := fun c => gm a (gm b c)) (fun x y _ _ => gm_right _ x y) (fun x y _ _ => by show gm a (gm b (x ^^^ y)) = _; rw [gm_right, gm_right]) (fun i => ?_) c hc
  refine linear_ext (f := fun b => gm (gm a b) (2 ^ i.val)) (g := fun b => gm a (gm b (2 ^ i.val))) (fun x y hx hy => by show gm (gm a (x ^^^ y)) _ = _; rw [gm_right, gm_left _ (gm_lt _ ha) (gm_lt _ ha)])
    (fun x y hx hy => by show gm a (gm (x ^^^ y) _) = _; rw [gm_left _ hx hy, gm_right]) (fun j => ?_) b hb
  refine linear_ext (f := fun a => gm (gm a (2 ^ j.val)) (2 ^ i.val)) (g := fun a => gm a (gm (2 ^ j.val) (2 ^ i.val)))
    (fun x y hx hy => by show gm (gm (x ^^^ y) _) _ = _; rw [gm_left _ hx hy, gm_left _ (gm_lt _ hx) (gm_lt _ hy)])
    (fun x y hx hy => gm_left _ hx hy) (fun k => ?_) a ha
  revert i j k
  decide +kernel

theorem gm_one {a : Nat} (ha : a < 65536) : gm a 1 = a := by
  refine linear_ext (f := fun a => gm a 1) (g := fun a => a) (fun x y hx hy => gm_left 1 hx hy) (fun _ _ _ _ => rfl) (fun i => ?_) a ha
  revert i
  decide +kernel

theorem one_gm {a : Nat} (ha : a < 65536) : gm 1 a = a := by rw [gm_comm (by decide) ha, gm_one ha]

theorem ml_zero_left : ∀ (n b p : Nat), ml n 0 b p = p
  | 0, _, _ => rfl
  | n + 1, b, p => by unfold ml; rw [show xt 0 = 0 from rfl]; rw [ml_zero_left n]; split <;> simp
theorem gm_zero_left (b : Nat) : gm 0 b = 0 := ml_zero_left 16 b 0
theorem ml_zero_right : ∀ (n a p : Nat), ml n a 0 p = p
  | 0, _, _ => rfl
  | n + 1, a, p => by unfold ml; simp; exact ml_zero_right n _ p
theorem gm_zero_right (a : Nat) : gm a 0 = 0 := ml_zero_right 16 a 0

theorem gm_two {a : Nat} (ha : a < 65536) : gm 2 a = xt a := by
  refine linear_ext (f := fun a => gm 2 a) (g := fun a => xt a) (fun x y _ _ => gm_right 2 x y) (fun x y hx hy => xt_xor hx hy) (fun i => ?_) a ha
  revert i
  decide +kernel
theorem gm_two' {a : Nat} (ha : a < 65536) : gm a 2 = xt a := by rw [gm_comm ha (by decide), gm_two ha]

/-- The product of n factors. -/
def pw (a : Nat) : Nat → Nat
  | 0 => 1
  | n + 1 => gm (pw a n) a

theorem pw_lt {a : Nat} (ha : a < 65536) : ∀ n, pw a n < 65536
  | 0 => by show 1 < 65536; decide
  | n + 1 => gm_lt _ (pw_lt ha n)

theorem pw_add {a : Nat} (ha : a < 65536) (m : Nat) : ∀ n, pw a (m + n) = gm (pw a m) (pw a n)
  | 0 => (gm_one (pw_lt ha m)).symm
  | n + 1 => by
    show gm (pw a (m + n)) a = gm (pw a m) (gm (pw a n) a)
    rw [pw_add ha m n, gm_assoc (pw_lt ha m) (pw_lt ha n) ha]

theorem pw_one {a : Nat} (ha : a < 65536) : pw a 1 = a := one_gm ha

theorem pw_sq {a : Nat} (ha : a < 65536) (n : Nat) : pw (gm a a) n = pw a (2 * n) := by
  induction n with
  | zero => rfl
  | succ n ih =>
    rw [show 2 * (n + 1) = (2 * n + 1) + 1 from by omega]
    show gm (pw (gm a a) n) (gm a a) = gm (gm (pw a (2 * n)) a) a
    rw [ih, gm_assoc (pw_lt ha _) ha ha]

theorem pw_zero_base (n : Nat) (h : 0 < n) : pw 0 n = 0 := by
  cases n with
  | zero => omega
  | succ n => exact gm_zero_right _

/-- The powers by squaring, as the program goes: from accumulator p. -/
def sq : Nat → Nat → Nat → Nat → Nat
  | 0, _, _, p => p
  | n + 1, a, r, p => sq n (gm a a) (r / 2) (if r % 2 = 1 then gm p a else p)

theorem sq_eq : ∀ (n a r p : Nat), a < 65536 → p < 65536 → r < 2 ^ n → sq n a r p = gm p (pw a r)
  | 0, a, r, p, _, hp, hr => by have : r = 0 := by simpa using hr
                                subst this; exact (gm_one hp).symm
  | n + 1, a, r, p, ha, hp, hr => by
    unfold sq
    have hr2 : r / 2 < 2 ^ n := by rw [Nat.pow_succ] at hr; omega
    rw [sq_eq n _ _ _ (gm_lt _ ha) (by split; exact gm_lt _ hp; exact hp) hr2, pw_sq ha]
    split
    · rename_i h
      have hr' : r = 1 + 2 * (r / 2) := by omega
      rw [gm_assoc hp ha (pw_lt ha _)]
      rw [show pw a r = pw a (1 + 2 * (r / 2)) from by rw [← hr'], pw_add ha, pw_one ha]
    · have hr' : r = 2 * (r / 2) := by omega
      rw [← hr']

theorem sq_pw {n a r : Nat} (ha : a < 65536) (hr : r < 2 ^ n) : sq n a r 1 = pw a r := by
  rw [sq_eq n a r 1 ha (by decide) hr, one_gm (pw_lt ha r)]

/-- Squares keep sums. -/
theorem sq_xor {a b : Nat} (ha : a < 65536) (hb : b < 65536) : gm (a ^^^ b) (a ^^^ b) = gm a a ^^^ gm b b := by
  rw [gm_right, gm_left _ ha hb, gm_left _ ha hb, gm_comm hb ha]
  rw [Nat.xor_assoc, ← Nat.xor_assoc (gm a b) (gm a b), Nat.xor_self, Nat.zero_xor]
/-- n squares, one of the other. -/
def sqs : Nat → Nat → Nat
  | 0, a => a
  | n + 1, a => sqs n (gm a a)
theorem sqs_xor : ∀ (n : Nat) {a b : Nat}, a < 65536 → b < 65536 → sqs n (a ^^^ b) = sqs n a ^^^ sqs n b
  | 0, _, _, _, _ => rfl
  | n + 1, a, b, ha, hb => by unfold sqs; rw [sq_xor ha hb, sqs_xor n (gm_lt _ ha) (gm_lt _ hb)]
theorem sqs_pw : ∀ (n : Nat) {a : Nat}, a < 65536 → sqs n a = pw a (2 ^ n)
  | 0, a, ha => (pw_one ha).symm
  | n + 1, a, ha => by unfold sqs; rw [sqs_pw n (gm_lt _ ha), pw_sq ha, Nat.pow_succ, Nat.mul_comm]
/-- a to the 65536 is a. -/
theorem pw65536 {a : Nat} (ha : a < 65536) : pw a 65536 = a := by
  rw [show 65536 = 2 ^ 16 from rfl, ← sqs_pw 16 ha]
  refine linear_ext (f := fun a => sqs 16 a) (g := fun a => a) (fun x y hx hy => sqs_xor 16 hx hy) (fun _ _ _ _ => rfl) (fun i => ?_) a ha
  revert i
  decide +kernel
/-- The sum of those numbers of a list whose bits are set. -/
def pick : List Nat → Nat → Nat
  | [], _ => 0
  | c :: l, x => (if x % 2 = 1 then c else 0) ^^^ pick l (x / 2)
theorem pick_xor : ∀ (l : List Nat) (x y : Nat), pick l (x ^^^ y) = pick l x ^^^ pick l y
  | [], _, _ => by simp [pick]
  | c :: l, x, y => by
    unfold pick
    rw [xor_div_two, pick_xor l, xor_mod_two]
    rcases Nat.mod_two_eq_zero_or_one x with hb | hb <;> rcases Nat.mod_two_eq_zero_or_one y with hc | hc <;> simp only [hb, hc] <;> simp
    · rw [← Nat.xor_assoc, ← Nat.xor_assoc, Nat.xor_comm c]
    · rw [Nat.xor_assoc]
    · rw [Nat.xor_assoc, ← Nat.xor_assoc (pick l (x / 2)) c, Nat.xor_comm (pick l (x / 2)) c, Nat.xor_assoc c, ← Nat.xor_assoc c c, Nat.xor_self, Nat.zero_xor]
def rt : List Nat := [44234, 52186, 52184, 52720, 52188, 24622, 52728, 27678, 52172, 3636, 24590, 0, 52664, 30330, 27806, 36278]
theorem low_xor (x y : Nat) : 2 * ((x ^^^ y) / 2) = (2 * (x / 2)) ^^^ (2 * (y / 2)) := by
  rw [xor_div_two]
  have h := Nat.shiftLeft_xor_distrib (a := x / 2) (b := y / 2) (i := 1)
  simpa [Nat.shiftLeft_eq, Nat.mul_comm] using h
/-- Out of e's square and e: e, but for its lowest bit. -/
theorem rt_sq {e : Nat} (he : e < 65536) : pick rt (gm e e ^^^ e) = 2 * (e / 2) := by
  refine linear_ext (f := fun e => pick rt (gm e e ^^^ e)) (g := fun e => 2 * (e / 2)) (fun x y hx hy => ?_) (fun x y _ _ => low_xor x y) (fun i => ?_) e he
  · show pick rt _ = _
    rw [sq_xor hx hy, ← pick_xor]
    congr 1
    rw [Nat.xor_assoc, ← Nat.xor_assoc (gm y y) x y, Nat.xor_comm (gm y y) x, Nat.xor_assoc x, ← Nat.xor_assoc (gm x x)]
  · revert i
    decide +kernel
theorem idem {e : Nat} (he : e < 65536) (h : gm e e = e) : e = 0 ∨ e = 1 := by
  have := rt_sq he
  rw [h, Nat.xor_self, show pick rt 0 = 0 by decide] at this
  omega
theorem pw65535 {a : Nat} (ha : a < 65536) (h0 : a ≠ 0) : pw a 65535 = 1 := by
  have he := pw_lt ha 65535
  have h1 : gm (pw a 65535) a = a := pw65536 ha
  have h2 : gm (pw a 65535) (pw a 65535) = pw a 65535 := by
    rw [← pw_add ha, show 65535 + 65535 = 65536 + 65534 from rfl, pw_add ha, pw65536 ha]
    rw [gm_comm ha (pw_lt ha _)]; rfl
  rcases idem he h2 with h | h
  · rw [h, gm_zero_left] at h1; exact absurd h1.symm h0
  · exact h
theorem inv_gm {a : Nat} (ha : a < 65536) (h0 : a ≠ 0) : gm a (pw a 65534) = 1 := by
  rw [gm_comm ha (pw_lt ha _)]
  exact pw65535 ha h0
theorem gm_ne_zero {a b : Nat} (ha : a < 65536) (hb : b < 65536) (h0 : a ≠ 0) (h : gm a b = 0) : b = 0 := by
  have h1 : gm (pw a 65534) (gm a b) = b := by
    rw [← gm_assoc (pw_lt ha _) ha hb, gm_comm (pw_lt ha _) ha, inv_gm ha h0, one_gm hb]
  rw [h, gm_zero_right] at h1
  exact h1.symm
/-- Inverses are unlike. -/
theorem inv_unique {a b : Nat} (ha : a < 65536) (hb : b < 65536) (h : gm a b = 1) : b = pw a 65534 := by
  have h0 : a ≠ 0 := by
    intro e; rw [e, gm_zero_left] at h; exact absurd h (by decide)
  have h1 : gm (pw a 65534) (gm a b) = b := by
    rw [← gm_assoc (pw_lt ha _) ha hb, gm_comm (pw_lt ha _) ha, inv_gm ha h0, one_gm hb]
  rw [h, gm_one (pw_lt ha _)] at h1
  exact h1.symm

end Go.Proofs.Ytadgjmlkpnifoaa.Gh
