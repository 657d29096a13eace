/-
  doleref11.Div: long division over the bits of the first factor; doleref24.Scale.
-/
import Derived.Test.YtkemhcokkaanfaaBound
namespace Go.Proofs.Ytkemhcokkaanfaa
open Go.RowKit

namespace Pm
/-- The doubling. -/
theorem twice (m q r c : Nat) (h : m = q * c + r) (hr : r < c) : (c ≤ 2 * r → 2 * m = (2 * q + 1) * c + (2 * r - c) ∧ 2 * r - c < c) ∧ (2 * r < c → 2 * m = (2 * q) * c + 2 * r) := by
  subst h
  refine ⟨fun h => ⟨?_, by omega⟩, fun _ => ?_⟩
  · rw [Nat.add_mul, Nat.mul_assoc]; omega
  · rw [Nat.mul_assoc]; omega
/-- The addend. -/
theorem plus (m q r c b : Nat) (hc : 0 < c) (h : m = q * c + r) (hr : r < c) :
    (c ≤ r + b % c → m + b = (q + b / c + 1) * c + (r + b % c - c) ∧ r + b % c - c < c) ∧ (r + b % c < c → m + b = (q + b / c) * c + (r + b % c)) := by
  have e := Nat.div_add_mod b c
  have hm := Nat.mod_lt b hc
  rw [Nat.mul_comm] at e
  generalize b / c = x at *
  generalize b % c = y at *
  subst h
  subst e
  refine ⟨fun h => ⟨?_, by omega⟩, fun _ => ?_⟩
  · rw [Nat.add_mul, Nat.add_mul]; omega
  · rw [Nat.add_mul]; omega
theorem too_great2 (a b c i m : Nat) (h : m ≤ a / 2 ^ i * b) (hm : 18446744073709551616 * c ≤ m) : c * 18446744073709551616 ≤ a * b := by
  have h1 : a / 2 ^ i * b ≤ a * b := Nat.mul_le_mul_right _ (Nat.div_le_self _ _)
  omega
theorem ge_of_q (m q r c : Nat) (h : m = q * c + r) (hq : 18446744073709551616 ≤ q) : 18446744073709551616 * c ≤ m := by
  have := Nat.mul_le_mul_right c hq
  omega
end Pm

end Go.Proofs.Ytkemhcokkaanfaa
