/-
  bound.Add, Mul, Scale; doleref11.Div; doleref24.Add, Mul, Scale: what they compute.
-/
import Derived.Test.YtkemhcokkaanfaaRefB
namespace Go.Proofs.Ytkemhcokkaanfaa
open Go.RowKit

/-- a number that stays at the top -/
def sat (x : Nat) : Nat := min x 18446744073709551615
def addS (a b : Nat) : Nat := sat (a + b)
def mulS (a b : Nat) : Nat := sat (a * b)
def scaleS (n a b : Nat) : Nat := if b = 0 then 18446744073709551615 else sat ((n * a + b - 1) / b)
theorem sat_lt (x : Nat) : sat x < 18446744073709551616 := by unfold sat; omega
theorem addS_lt (a b : Nat) : addS a b < 18446744073709551616 := sat_lt _
theorem mulS_lt (a b : Nat) : mulS a b < 18446744073709551616 := sat_lt _
theorem scaleS_lt (n a b : Nat) : scaleS n a b < 18446744073709551616 := by
  unfold scaleS; split
  · omega
  · exact sat_lt _

theorem up_scale (n a b : Nat) (hb : 0 < b) : (upOk n a b = true ∧ upV n a b = scaleS n a b) ∨ (upOk n a b = false ∧ scaleS n a b = 18446744073709551615) := by
  have es : scaleS n a b = sat ((n * a + b - 1) / b) := if_neg (by omega)
  rw [es]
  unfold upOk upV
  have e := Nat.div_add_mod (n * a) b
  have hm := Nat.mod_lt (n * a) hb
  by_cases hok : n * a < b * 18446744073709551616
  · have eq : mdQ n a b = n * a / b := if_pos hok
    have er : mdR n a b = n * a % b := if_pos hok
    have eo : mdOk n a b = true := decide_eq_true hok
    have bq := mdQ_lt n a b
    rw [eq] at bq
    rw [eq, er, eo]
    generalize n * a / b = q at *
    generalize n * a % b = r at *
    have key : (n * a + b - 1) / b = if r = 0 then q else q + 1 := by
      by_cases hr : r = 0
      · rw [if_pos hr, ← e, hr, Nat.add_zero, show b * q + b - 1 = (b - 1) + b * q by omega, Nat.add_mul_div_left _ _ hb, Nat.div_eq_of_lt (by omega), Nat.zero_add]
      · rw [if_neg hr, ← e, show b * q + r + b - 1 = (r - 1) + b * (q + 1) by rw [Nat.mul_add]; omega, Nat.add_mul_div_left _ _ hb, Nat.div_eq_of_lt (by omega), Nat.zero_add]
    rw [key]
    by_cases hr : r = 0
    · left
      refine ⟨?_, ?_⟩
      · rw [hr]; rfl
      · rw [if_pos rfl, if_pos hr, if_pos hr]; exact (Nat.min_eq_left (by omega)).symm
    · by_cases hq : q < 18446744073709551615
      · left
        refine ⟨?_, ?_⟩
        · rw [decide_eq_true hq, Bool.or_true]; rfl
        · rw [if_pos rfl, if_neg hr, if_pos hq, if_neg hr]; exact (Nat.min_eq_left (by omega)).symm
      · right
        refine ⟨?_, ?_⟩
        · rw [decide_eq_false hq, decide_eq_false hr]; rfl
        · rw [if_neg hr]; exact Nat.min_eq_right (by omega)
  · have eo : mdOk n a b = false := decide_eq_false hok
    right
    rw [eo]
    refine ⟨rfl, ?_⟩
    have : 18446744073709551615 ≤ (n * a + b - 1) / b := by
      rw [Nat.le_div_iff_mul_le hb]
      have : b * 18446744073709551616 ≤ n * a := by omega
      omega
    unfold sat
    generalize (n * a + b - 1) / b = z at *
    omega

theorem scale_one (a b : Nat) : scaleS a b 1 = mulS a b := by
  unfold scaleS mulS
  rw [if_neg (by omega), Nat.div_one]; rfl

end Go.Proofs.Ytkemhcokkaanfaa
