/- The plain field of 256 elements behind the shards: products bit by bit, with their laws, and inverses. No program here. -/
namespace Go.Proofs.Ytihlofngjfhjpaa

/-- twice a byte, in the field -/
def xt (x : Nat) : Nat := if 2 * x > 255 then (2 * x) ^^^ 285 else 2 * x

/-- a product, bit by bit -/
def gm : Nat → Nat → Nat → Nat
  | 0, _, _ => 0
  | n + 1, x, b => (if b % 2 = 1 then x else 0) ^^^ gm n (xt x) (b / 2)

theorem xt_lt (x : Nat) (h : x < 256) : xt x < 256 := by
  revert x; decide +kernel

theorem xt_xor : ∀ x, x < 256 → ∀ y, y < 256 → xt (x ^^^ y) = xt x ^^^ xt y := by decide +kernel

theorem xor_lt256 {x y : Nat} (hx : x < 256) (hy : y < 256) : x ^^^ y < 256 := Nat.xor_lt_two_pow (n := 8) hx hy

theorem gm_lt (n : Nat) : ∀ x b, x < 256 → gm n x b < 256 := by
  induction n with
  | zero => intro x b _; simp [gm]
  | succ n ih =>
    intro x b hx
    simp only [gm]
    refine xor_lt256 ?_ (ih _ _ (xt_lt x hx))
    split <;> omega

theorem gm_zero_right (n : Nat) : ∀ x, gm n x 0 = 0 := by
  induction n with
  | zero => intro x; rfl
  | succ n ih => intro x; simp [gm, ih]

theorem xor_swap (a b c d : Nat) : (a ^^^ b) ^^^ (c ^^^ d) = (a ^^^ c) ^^^ (b ^^^ d) := by
  rw [Nat.xor_assoc, Nat.xor_assoc, ← Nat.xor_assoc b c d, Nat.xor_comm b c, Nat.xor_assoc c b d]

theorem gm_add_left (n : Nat) : ∀ x y b, x < 256 → y < 256 → gm n (x ^^^ y) b = gm n x b ^^^ gm n y b := by
  induction n with
  | zero => intros; simp [gm]
  | succ n ih =>
    intro x y b hx hy
    simp only [gm]
    rw [xt_xor x hx y hy, ih _ _ _ (xt_lt x hx) (xt_lt y hy)]
    by_cases h : b % 2 = 1
    · rw [if_pos h, if_pos h, if_pos h, xor_swap]
    · rw [if_neg h, if_neg h, if_neg h, Nat.zero_xor, Nat.zero_xor, Nat.zero_xor]

theorem xor_mod2 (b c : Nat) : (b ^^^ c) % 2 = (b % 2 + c % 2) % 2 := by
  have := Nat.xor_mod_two_pow (a := b) (b := c) (n := 1)
  simp only [Nat.pow_one] at this
  rw [this]
  have hb : b % 2 = 0 ∨ b % 2 = 1 := by omega
  have hc : c % 2 = 0 ∨ c % 2 = 1 := by omega
  rcases hb with h | h <;> rcases hc with h' | h' <;> rw [h, h'] <;> rfl

theorem xor_div2 (b c : Nat) : (b ^^^ c) / 2 = (b / 2) ^^^ (c / 2) := by
  have := Nat.shiftRight_xor_distrib (a := b) (b := c) (i := 1)
  simpa [Nat.shiftRight_succ] using this

theorem gm_add_right (n : Nat) : ∀ x b c, gm n x (b ^^^ c) = gm n x b ^^^ gm n x c := by
  induction n with
  | zero => intros; simp [gm]
  | succ n ih =>
    intro x b c
    simp only [gm]
    rw [xor_div2, ih, xor_mod2]
    have hb : b % 2 = 0 ∨ b % 2 = 1 := by omega
    have hc : c % 2 = 0 ∨ c % 2 = 1 := by omega
    rcases hb with h | h <;> rcases hc with h' | h' <;> rw [h, h'] <;> simp [xor_swap]
    · rw [← Nat.xor_assoc, Nat.xor_comm x, Nat.xor_assoc]
    · rw [← Nat.xor_assoc]

/-- a byte as the sum of its bits -/
def bits8 (f : Nat → Nat) (a : Nat) : Nat :=
  (if a / 1 % 2 = 1 then f 1 else 0) ^^^ (if a / 2 % 2 = 1 then f 2 else 0) ^^^ (if a / 4 % 2 = 1 then f 4 else 0) ^^^ (if a / 8 % 2 = 1 then f 8 else 0) ^^^
  (if a / 16 % 2 = 1 then f 16 else 0) ^^^ (if a / 32 % 2 = 1 then f 32 else 0) ^^^ (if a / 64 % 2 = 1 then f 64 else 0) ^^^ (if a / 128 % 2 = 1 then f 128 else 0)

theorem bits8_id : ∀ a, a < 256 → bits8 id a = a := by decide +kernel

/-- what is additive is told by its values at the bits -/
theorem additive_bits (f : Nat → Nat) (hf : ∀ x y, x < 256 → y < 256 → f (x ^^^ y) = f x ^^^ f y) (a : Nat) (ha : a < 256) : f a = bits8 f a := by
  have h0 : f 0 = 0 := by
    have := hf 0 0 (by omega) (by omega)
    simpa using this
  have hi : ∀ (p : Prop) [Decidable p] (x : Nat), f (if p then x else 0) = if p then f x else 0 := by
    intro p _ x; split <;> simp [h0]
  have hl : ∀ (p : Prop) [Decidable p] (x : Nat), x < 256 → (if p then x else 0) < 256 := by
    intro p _ x hx; split <;> omega
  conv => lhs; rw [← bits8_id a ha]
  unfold bits8
  simp only [id]
  repeat rw [hf _ _ (by repeat' (first | exact hl _ _ (by omega) | apply xor_lt256)) (hl _ _ (by omega))]
  simp only [hi]

theorem additive_ext (f g : Nat → Nat) (hf : ∀ x y, x < 256 → y < 256 → f (x ^^^ y) = f x ^^^ f y) (hg : ∀ x y, x < 256 → y < 256 → g (x ^^^ y) = g x ^^^ g y)
    (h : ∀ i, i < 8 → f (2 ^ i) = g (2 ^ i)) (a : Nat) (ha : a < 256) : f a = g a := by
  rw [additive_bits f hf a ha, additive_bits g hg a ha]
  unfold bits8
  have h0 := h 0 (by omega)
  have h1 := h 1 (by omega)
  have h2 := h 2 (by omega)
  have h3 := h 3 (by omega)
  have h4 := h 4 (by omega)
  have h5 := h 5 (by omega)
  have h6 := h 6 (by omega)
  have h7 := h 7 (by omega)
  simp only [Nat.reducePow] at h0 h1 h2 h3 h4 h5 h6 h7
  rw [h0, h1, h2, h3, h4, h5, h6, h7]

theorem pow_lt (i : Nat) (h : i < 8) : 2 ^ i < 256 := by
  revert i; decide

theorem gm_comm (a b : Nat) (ha : a < 256) (hb : b < 256) : gm 8 a b = gm 8 b a := by
  refine additive_ext (fun x => gm 8 x b) (fun x => gm 8 b x) (fun x y hx hy => gm_add_left 8 x y b hx hy) (fun x y _ _ => gm_add_right 8 b x y) ?_ a ha
  intro i hi
  refine additive_ext (fun y => gm 8 (2 ^ i) y) (fun y => gm 8 y (2 ^ i)) (fun x y _ _ => gm_add_right 8 _ x y) (fun x y hx hy => gm_add_left 8 x y _ hx hy) ?_ b hb
  revert i
  decide +kernel

theorem gm_assoc (a b c : Nat) (ha : a < 256) (hb : b < 256) (hc : c < 256) : gm 8 (gm 8 a b) c = gm 8 a (gm 8 b c) := by
  refine additive_ext (fun x => gm 8 (gm 8 x b) c) (fun x => gm 8 x (gm 8 b c)) (fun x y hx hy => ?_) (fun x y hx hy => gm_add_left 8 x y _ hx hy) ?_ a ha
  · show gm 8 (gm 8 (x ^^^ y) b) c = _
    rw [gm_add_left 8 x y b hx hy, gm_add_left 8 _ _ c (gm_lt 8 _ _ hx) (gm_lt 8 _ _ hy)]
  intro i hi
  refine additive_ext (fun y => gm 8 (gm 8 (2 ^ i) y) c) (fun y => gm 8 (2 ^ i) (gm 8 y c)) (fun x y hx hy => ?_) (fun x y hx hy => ?_) ?_ b hb
  · show gm 8 (gm 8 (2 ^ i) (x ^^^ y)) c = _
    rw [gm_add_right, gm_add_left 8 _ _ c (gm_lt 8 _ _ (pow_lt i hi)) (gm_lt 8 _ _ (pow_lt i hi))]
  · show gm 8 (2 ^ i) (gm 8 (x ^^^ y) c) = _
    rw [gm_add_left 8 x y c hx hy, gm_add_right]
  intro j hj
  refine additive_ext (fun z => gm 8 (gm 8 (2 ^ i) (2 ^ j)) z) (fun z => gm 8 (2 ^ i) (gm 8 (2 ^ j) z)) (fun x y _ _ => gm_add_right 8 _ x y) (fun x y hx hy => ?_) ?_ c hc
  · show gm 8 (2 ^ i) (gm 8 (2 ^ j) (x ^^^ y)) = _
    rw [gm_add_right, gm_add_right]
  revert i j
  decide +kernel

/-! ### The field -/

/-- a byte, as an element of the field -/
structure G where
  val : Nat
  lt : val < 256
  deriving DecidableEq

namespace G
theorem ext {a b : G} (h : a.val = b.val) : a = b := by
  cases a; cases b; simp_all

instance : Add G := ⟨fun a b => ⟨a.val ^^^ b.val, xor_lt256 a.lt b.lt⟩⟩
instance : Mul G := ⟨fun a b => ⟨gm 8 a.val b.val, gm_lt 8 _ _ a.lt⟩⟩
instance : OfNat G 0 := ⟨⟨0, by decide⟩⟩
instance : OfNat G 1 := ⟨⟨1, by decide⟩⟩
instance : Inhabited G := ⟨0⟩

theorem add_val (a b : G) : (a + b).val = a.val ^^^ b.val := rfl
theorem mul_val (a b : G) : (a * b).val = gm 8 a.val b.val := rfl
theorem zero_val : (0 : G).val = 0 := rfl
theorem one_val : (1 : G).val = 1 := rfl

theorem add_comm (a b : G) : a + b = b + a := ext (Nat.xor_comm _ _)
theorem add_assoc (a b c : G) : a + b + c = a + (b + c) := ext (Nat.xor_assoc _ _ _)
theorem add_zero (a : G) : a + 0 = a := ext (Nat.xor_zero _)
theorem zero_add (a : G) : 0 + a = a := ext (Nat.zero_xor _)
theorem add_self (a : G) : a + a = 0 := ext (Nat.xor_self _)
theorem mul_comm (a b : G) : a * b = b * a := ext (gm_comm _ _ a.lt b.lt)
theorem mul_assoc (a b c : G) : a * b * c = a * (b * c) := ext (gm_assoc _ _ _ a.lt b.lt c.lt)
theorem mul_add (a b c : G) : a * (b + c) = a * b + a * c := ext (gm_add_right 8 _ _ _)
theorem add_mul (a b c : G) : (a + b) * c = a * c + b * c := ext (gm_add_left 8 _ _ _ a.lt b.lt)
theorem mul_zero (a : G) : a * 0 = 0 := ext (gm_zero_right 8 _)
theorem zero_mul (a : G) : 0 * a = 0 := by rw [mul_comm, mul_zero]
theorem mul_one_nat : ∀ a, a < 256 → gm 8 a 1 = a := by decide +kernel
theorem mul_one (a : G) : a * 1 = a := ext (mul_one_nat a.val a.lt)
theorem one_mul (a : G) : 1 * a = a := by rw [mul_comm, mul_one]

instance : Std.Associative (α := G) (· + ·) := ⟨add_assoc⟩
instance : Std.Commutative (α := G) (· + ·) := ⟨add_comm⟩
instance : Std.Associative (α := G) (· * ·) := ⟨mul_assoc⟩
instance : Std.Commutative (α := G) (· * ·) := ⟨mul_comm⟩

/-- seven squarings: the inverse, as the program finds it -/
def invLoop : Nat → G → G → G
  | 0, _, out => out
  | n + 1, a, out => invLoop n (a * a) (out * (a * a))
def inv (a : G) : G := if a = 0 then 0 else invLoop 7 a 1

def invN : Nat → Nat → Nat → Nat
  | 0, _, out => out
  | n + 1, a, out => invN n (gm 8 a a) (gm 8 out (gm 8 a a))
theorem invLoop_val (n : Nat) : ∀ a out : G, (invLoop n a out).val = invN n a.val out.val := by
  induction n with
  | zero => intros; rfl
  | succ n ih => intro a out; simp only [invLoop, invN]; rw [ih]; rfl
theorem inv_nat : ∀ a, a < 256 → a ≠ 0 → gm 8 a (invN 7 a 1) = 1 := by decide +kernel
theorem ne_val {a : G} (h : a ≠ 0) : a.val ≠ 0 := fun e => h (ext e)
theorem mul_inv (a : G) (h : a ≠ 0) : a * inv a = 1 := by
  apply ext
  unfold inv
  rw [if_neg h, mul_val, invLoop_val]
  exact inv_nat a.val a.lt (ne_val h)
theorem inv_zero : inv 0 = 0 := rfl
theorem one_ne_zero : (1 : G) ≠ 0 := by decide
theorem mul_eq_zero {a b : G} (h : a * b = 0) : a = 0 ∨ b = 0 := by
  by_cases ha : a = 0
  · exact .inl ha
  · right
    have : inv a * (a * b) = inv a * 0 := by rw [h]
    rw [← mul_assoc, mul_comm (inv a) a, mul_inv a ha, one_mul, mul_zero] at this
    exact this
theorem inv_unique {a b : G} (h : a * b = 1) : b = inv a := by
  have ha : a ≠ 0 := by
    rintro rfl
    rw [zero_mul] at h
    exact one_ne_zero h.symm
  have : inv a * (a * b) = inv a * 1 := by rw [h]
  rwa [← mul_assoc, mul_comm (inv a) a, mul_inv a ha, one_mul, mul_one] at this
theorem inv_ne_zero {a : G} (h : a ≠ 0) : inv a ≠ 0 := by
  intro e
  have := mul_inv a h
  rw [e, mul_zero] at this
  exact one_ne_zero this.symm
theorem add_eq_zero {a b : G} (h : a + b = 0) : a = b := by
  have : a + b + b = 0 + b := by rw [h]
  rwa [add_assoc, add_self, add_zero, zero_add] at this
theorem add_left_cancel {a b c : G} (h : a + b = a + c) : b = c := by
  have : a + (a + b) = a + (a + c) := by rw [h]
  rwa [← add_assoc, ← add_assoc, add_self, zero_add, zero_add] at this
end G
end Go.Proofs.Ytihlofngjfhjpaa
