/-
  PLAIN ARITHMETIC UNDER math/bits.Div64 AND THE LONG DIVISION BIT BY BIT. No Go in sight.
-/
namespace Go.Proofs.Ytkemhcokkaanfaa.Pm

/-! ### Knuth's digit: a quotient's digit is guessed from the upper half and lowered -/
theorem digit_mul (u yn1 yn0 q r y : Nat) (hy : y = yn1 * 4294967296 + yn0) (hr : q * yn1 + r = u) :
    q * y + r * 4294967296 = u * 4294967296 + q * yn0 := by
  subst hy; subst hr
  rw [Nat.mul_add, Nat.add_mul, ← Nat.mul_assoc]; omega

theorem digit_step (u yn1 yn0 un1 q r y : Nat) (hy : y = yn1 * 4294967296 + yn0) (hu : u < y) (hun : un1 < 4294967296)
    (hr : q * yn1 + r = u) (h : 4294967296 ≤ q ∨ 4294967296 * r + un1 < q * yn0) : (u * 4294967296 + un1) / y + 1 ≤ q := by
  have hy0 : 0 < y := by omega
  have e := digit_mul u yn1 yn0 q r y hy hr
  have : (u * 4294967296 + un1) / y < q := by
    rw [Nat.div_lt_iff_lt_mul hy0]
    rcases h with h | h
    · have h1 : 4294967296 * y ≤ q * y := Nat.mul_le_mul_right _ h
      omega
    · omega
  omega

theorem digit_out (u yn1 yn0 un1 q r y : Nat) (hy : y = yn1 * 4294967296 + yn0) (hy0 : 0 < y) (h0 : yn0 < 4294967296)
    (hr : q * yn1 + r = u) (hq : (u * 4294967296 + un1) / y ≤ q) (h : (q * yn0 ≤ 4294967296 * r + un1) ∨ (q ≤ 4294967296 ∧ 4294967296 ≤ r)) :
    q = (u * 4294967296 + un1) / y := by
  have e := digit_mul u yn1 yn0 q r y hy hr
  have : q ≤ (u * 4294967296 + un1) / y := by
    rw [Nat.le_div_iff_mul_le hy0]
    rcases h with h | ⟨h1, h2⟩
    · omega
    · have h3 : q * yn0 ≤ 4294967296 * 4294967296 := Nat.mul_le_mul h1 (by omega)
      have h4 : 4294967296 * 4294967296 ≤ r * 4294967296 := Nat.mul_le_mul_right _ h2
      omega
  omega

/-- The first guess: no more than two above, and what is left. -/
theorem digit_start (u yn1 yn0 un1 y : Nat) (hy : y = yn1 * 4294967296 + yn0) (h1 : 2147483648 ≤ yn1) (h0 : yn0 < 4294967296) (hu : u < y) :
    (u / yn1) * yn1 + u % yn1 = u ∧ u / yn1 ≤ 4294967297 ∧ ((un1 < 4294967296) → (u * 4294967296 + un1) / y ≤ u / yn1) := by
  have hp : 0 < yn1 := by omega
  have e : (u / yn1) * yn1 + u % yn1 = u := by rw [Nat.mul_comm]; exact Nat.div_add_mod u yn1
  refine ⟨e, ?_, fun hun => ?_⟩
  · have : u / yn1 < 4294967298 := by
      rw [Nat.div_lt_iff_lt_mul hp]; omega
    omega
  · have hy0 : 0 < y := by omega
    have : (u * 4294967296 + un1) / y < u / yn1 + 1 := by
      rw [Nat.div_lt_iff_lt_mul hy0]
      have hm := Nat.mod_lt u hp
      have e2 := digit_mul u yn1 yn0 (u / yn1) (u % yn1) y hy e
      have h3 : (u % yn1 + 1) * 4294967296 ≤ yn1 * 4294967296 := Nat.mul_le_mul_right _ (by omega)
      rw [Nat.add_mul] at h3 ⊢
      omega
    omega

/-! ### Both digits -/
theorem digits_aux (a c y k : Nat) (hy : 0 < y) : (a * k + c) / y = (a / y) * k + ((a % y) * k + c) / y ∧ (a * k + c) % y = ((a % y) * k + c) % y := by
  have e := Nat.div_add_mod a y
  have h : a * k + c = ((a % y) * k + c) + y * (a / y * k) := by
    have h1 : a * k = (y * (a / y) + a % y) * k := by rw [e]
    rw [h1, Nat.add_mul, Nat.mul_assoc]; omega
  constructor
  · rw [h, Nat.add_mul_div_left _ _ hy, Nat.add_comm]
  · rw [h, Nat.add_mul_mod_self_left]

theorem two_digits (u un1 un0 y : Nat) (hy : 0 < y) :
    ((u * 4294967296 + un1) * 4294967296 + un0) / y = ((u * 4294967296 + un1) / y) * 4294967296 + (((u * 4294967296 + un1) % y) * 4294967296 + un0) / y ∧
    ((u * 4294967296 + un1) * 4294967296 + un0) % y = (((u * 4294967296 + un1) % y) * 4294967296 + un0) % y :=
  digits_aux _ _ _ _ hy

theorem scaled_div (n y s : Nat) (hs : 0 < s) : (n * s) / (y * s) = n / y := Nat.mul_div_mul_right n y hs
theorem scaled_mod (n y s : Nat) : (n * s) % (y * s) = (n % y) * s := Nat.mul_mod_mul_right s n y

theorem digit_lt (u un1 y : Nat) (hu : u < y) (hun : un1 < 4294967296) : (u * 4294967296 + un1) / y < 4294967296 := by
  have hy0 : 0 < y := by omega
  rw [Nat.div_lt_iff_lt_mul hy0]
  have : (u + 1) * 4294967296 ≤ y * 4294967296 := Nat.mul_le_mul_right _ hu
  omega

/-! ### Long division, bit by bit -/
theorem halve_step (n k : Nat) : n / 2 ^ k = 2 * (n / 2 ^ (k + 1)) + n / 2 ^ k % 2 := by
  have h : n / 2 ^ (k + 1) = n / 2 ^ k / 2 := by rw [Nat.pow_succ, Nat.div_div_eq_div_mul]
  rw [h]; omega

theorem bit_hi (h l i : Nat) (hl : l < 18446744073709551616) (hi : i < 64) : (h * 18446744073709551616 + l) / 2 ^ (127 - i) % 2 = h / 2 ^ (63 - i) % 2 := by
  have e : 2 ^ (127 - i) = 18446744073709551616 * 2 ^ (63 - i) := by
    rw [show (18446744073709551616 : Nat) = 2 ^ 64 from rfl, ← Nat.pow_add]; congr 1; omega
  rw [e, ← Nat.div_div_eq_div_mul]
  congr 2; omega

theorem bit_lo (h l i : Nat) (hi : 64 ≤ i) (hi2 : i < 128) : (h * 18446744073709551616 + l) / 2 ^ (127 - i) % 2 = l / 2 ^ (63 - (i - 64)) % 2 := by
  have e : (18446744073709551616 : Nat) = 2 ^ (127 - i) * (2 * 2 ^ (i - 64)) := by
    rw [show (18446744073709551616 : Nat) = 2 ^ 64 from rfl, ← Nat.pow_succ', ← Nat.pow_add]; congr 1; omega
  have e2 : 63 - (i - 64) = 127 - i := by omega
  rw [e2, e, Nat.mul_comm h, Nat.mul_assoc, Nat.add_comm, Nat.add_mul_div_left _ _ (Nat.two_pow_pos _), Nat.mul_assoc, Nat.add_mul_mod_self_left]

/-- One step: the quotient and the rest of 2 m + b. -/
theorem div_step (m c b : Nat) (hc : 0 < c) (hb : b < 2) :
    (c ≤ 2 * (m % c) + b → (2 * m + b) / c = 2 * (m / c) + 1 ∧ (2 * m + b) % c = 2 * (m % c) + b - c) ∧
    (2 * (m % c) + b < c → (2 * m + b) / c = 2 * (m / c) ∧ (2 * m + b) % c = 2 * (m % c) + b) := by
  have e := Nat.div_add_mod m c
  have hm := Nat.mod_lt m hc
  generalize m % c = r at *
  generalize m / c = q at *
  subst e
  constructor
  · intro h
    have e2 : 2 * (c * q + r) + b = (2 * r + b - c) + c * (2 * q + 1) := by
      rw [Nat.mul_add c, Nat.mul_left_comm c 2 q]; omega
    rw [e2, Nat.add_mul_div_left _ _ hc, Nat.add_mul_mod_self_left, Nat.div_eq_of_lt (by omega), Nat.mod_eq_of_lt (by omega)]
    omega
  · intro h
    have e2 : 2 * (c * q + r) + b = (2 * r + b) + c * (2 * q) := by
      rw [Nat.mul_left_comm c 2 q]; omega
    rw [e2, Nat.add_mul_div_left _ _ hc, Nat.add_mul_mod_self_left, Nat.div_eq_of_lt h, Nat.mod_eq_of_lt h]
    omega

theorem too_great (n c k q : Nat) (hk : 0 < k) (hq : q = n / 2 ^ k / c) (h : 9223372036854775808 ≤ q) : c * 18446744073709551616 ≤ n := by
  have h1 : q * c ≤ n / 2 ^ k := by rw [hq]; exact Nat.div_mul_le_self _ _
  have h2 : (q * c) * 2 ^ k ≤ n := Nat.le_trans (Nat.mul_le_mul_right _ h1) (Nat.div_mul_le_self _ _)
  have h3 : 9223372036854775808 * c ≤ q * c := Nat.mul_le_mul_right _ h
  have h4 : (9223372036854775808 * c) * 2 ≤ (q * c) * 2 ^ k := by
    refine Nat.mul_le_mul h3 ?_
    calc 2 = 2 ^ 1 := rfl
      _ ≤ 2 ^ k := Nat.pow_le_pow_right (by omega) hk
  omega

end Go.Proofs.Ytkemhcokkaanfaa.Pm
