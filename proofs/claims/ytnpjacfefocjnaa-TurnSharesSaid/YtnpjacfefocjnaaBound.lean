/-
  bound.Add, Mul, Scale; doleref11.Div; doleref24.Add, Mul, Scale: what they compute.
-/
import Derived.Test.YtnpjacfefocjnaaRefB
namespace Go.Proofs.Ytnpjacfefocjnaa
open Go.RowKit

/-- a number that stays at the top -/
def sat (x : Nat) : Nat := min x 18446744073709551615
def addS (a b : Nat) : Nat := sat (a + b)
def mulS (a b : Nat) : Nat := sat (a * b)
def scaleS (n a b : Nat) : Nat := if b = 0 then 18446744073709551615 else sat ((n * a + b - 1) / b)
theorem sat_lt (x : Nat) : sat x < 18446744073709551616 := by unfold sat; omega
theorem addS_lt (a b : Nat) : addS a b < 18446744073709551616 := sat_lt _
theorem mulS_lt (a b : Nat) : mulS a b < 18446744073709551616 := sat_lt _
theorem scaleS_lt (n a b : Nat) : scaleS n a b < 18446744073709551616 := by
  unfold scaleS; split
  · omega
  · exact sat_lt _

theorem up_scale (n a b : Nat) (hb : 0 < b) : (upOk n a b = true ∧ upV n a b = scaleS n a b) ∨ (upOk n a b = false ∧ scaleS n a b = 18446744073709551615) := by
  have es : scaleS n a b = sat ((n * a + b - 1) / b) := if_neg (by omega)
  rw [es]
  unfold upOk upV
  have e := Nat.div_add_mod (n * a) b
  have hm := Nat.mod_lt (n * a) hb
  by_cases hok : n * a < b * 18446744073709551616
  · have eq : mdQ n a b = n * a / b := if_pos hok
    have er : mdR n a b = n * a % b := if_pos hok
    have eo : mdOk n a b = true := decide_eq_true hok
    have bq := mdQ_lt n a b
    rw [eq] at bq
    rw [eq, er, eo]
    generalize n * a / b = q at *
    generalize n * a % b = r at *
    have key : (n * a + b - 1) / b = if r = 0 then q else q + 1 := by
      by_cases hr : r = 0
      · rw [if_pos hr, ← e, hr, Nat.add_zero, show b * q + b - 1 = (b - 1) + b * q by omega, Nat.add_mul_div_left _ _ hb, Nat.div_eq_of_lt (by omega), Nat.zero_add]
      · rw [if_neg hr, ← e, show b * q + r + b - 1 = (r - 1) + b * (q + 1) by rw [Nat.mul_add]; omega, Nat.add_mul_div_left _ _ hb, Nat.div_eq_of_lt (by omega), Nat.zero_add]
    rw [key]
    by_cases hr : r = 0
    · left
      refine ⟨?_, ?_⟩
      · rw [hr]; rfl
      · rw [if_pos rfl, if_pos hr, if_pos hr]; exact (Nat.min_eq_left (by omega)).symm
    · by_cases hq : q < 18446744073709551615
      · left
        refine ⟨?_, ?_⟩
        · rw [decide_eq_true hq, Bool.or_true]; rfl
        · rw [if_pos rfl, if_neg hr, if_pos hq, if_neg hr]; exact (Nat.min_eq_left (by omega)).symm
      · right
        refine ⟨?_, ?_⟩
        · rw [decide_eq_false hq, decide_eq_false hr]; rfl
        · rw [if_neg hr]; exact Nat.min_eq_right (by omega)
  · have eo : mdOk n a b = false := decide_eq_false hok
    right
    rw [eo]
    refine ⟨rfl, ?_⟩
    have : 18446744073709551615 ≤ (n * a + b - 1) / b := by
      rw [Nat.le_div_iff_mul_le hb]
      have : b * 18446744073709551616 ≤ n * a := by omega
      omega
    unfold sat
    generalize (n * a + b - 1) / b = z at *
    omega

set_option maxHeartbeats 400000 in
theorem add_any (a b : Nat) (_ha : a < 18446744073709551616) (hb : b < 18446744073709551616) (w : World) :
    Calls Try.prog 48 #[.int .u64 a, .int .u64 b] w fun e w' => e = .returned (.int .u64 (addS a b : Nat)) ∧ w = w' := by
  have e1 : (18446744073709551615 : Int) - (b : Int) = ((18446744073709551615 - b : Nat) : Int) := by omega
  by_cases h : 18446744073709551615 - b < a
  · have e : addS a b = 18446744073709551615 := by unfold addS sat; omega
    rw [e]
    have h1 : decide (18446744073709551615 - b < a) = true := decide_eq_true h
    generalize 18446744073709551615 - b = t at *
    clear e
    go_enter Try.func48, Try.ntmps48
    go_wp2_with fail
    go_ret
    exact ⟨rfl, rfl⟩
  · have e : addS a b = a + b := by unfold addS sat; omega
    rw [e]
    have e2 : IntKind.u64.wrap ((a : Int) + (b : Int)) = ((a + b : Nat) : Int) := by rw [IntKind.wrap_u64]; omega
    have h1 : decide (18446744073709551615 - b < a) = false := decide_eq_false h
    generalize 18446744073709551615 - b = t at *
    generalize a + b = s at *
    clear e
    go_enter Try.func48, Try.ntmps48
    go_wp2_with fail
    go_ret
    exact ⟨rfl, rfl⟩

set_option maxHeartbeats 400000 in
theorem refAdd_any (a b : Nat) (ha : a < 18446744073709551616) (hb : b < 18446744073709551616) (w : World) :
    Calls Try.prog 49 #[.int .u64 a, .int .u64 b] w fun e w' => e = .returned (.int .u64 (addS a b : Nat)) ∧ w = w' := by
  have e1 : IntKind.u64.wrap ((a : Int) + (b : Int)) = (((a + b) % 18446744073709551616 : Nat) : Int) := by rw [IntKind.wrap_u64]; omega
  by_cases h : (a + b) % 18446744073709551616 < a
  · have e : addS a b = 18446744073709551615 := by unfold addS sat; omega
    rw [e]
    have h1 : decide ((a + b) % 18446744073709551616 < a) = true := decide_eq_true h
    generalize (a + b) % 18446744073709551616 = t at *
    clear e
    go_enter Try.func49, Try.ntmps49
    go_wp2_with fail
    go_ret
    exact ⟨rfl, rfl⟩
  · have e : addS a b = (a + b) % 18446744073709551616 := by unfold addS sat; omega
    rw [e]
    have h1 : decide ((a + b) % 18446744073709551616 < a) = false := decide_eq_false h
    generalize (a + b) % 18446744073709551616 = t at *
    clear e
    go_enter Try.func49, Try.ntmps49
    go_wp2_with fail
    go_ret
    exact ⟨rfl, rfl⟩

set_option maxHeartbeats 400000 in
theorem scale_any (n a b : Nat) (hn : n < 18446744073709551616) (ha : a < 18446744073709551616) (hb : b < 18446744073709551616) (w : World) :
    Calls Try.prog 52 #[.int .u64 n, .int .u64 a, .int .u64 b] w fun e w' => e = .returned (.int .u64 (scaleS n a b : Nat)) ∧ Below w.heap.size w w' := by
  rcases Nat.eq_zero_or_pos b with rfl | hb0
  · have e : scaleS n a 0 = 18446744073709551615 := if_pos rfl
    rw [e]
    clear e
    go_enter Try.func52, Try.ntmps52
    go_wp2_with fail
    go_ret
    exact ⟨rfl, Below.refl _ _⟩
  · have b0 : ((b : Int) == 0) = false := by simp; omega
    have u := up_any n a b hn ha hb w
    rcases up_scale n a b hb0 with ⟨u1, u2⟩ | ⟨u1, u2⟩
    · rw [u1, u2] at u
      have U := Lib.hid u
      clear u u1 u2
      generalize scaleS n a b = s at *
      go_enter Try.func52, Try.ntmps52
      go_wp2_with fail
      refine U.out.mono ?_
      rintro e w1 ⟨rfl, hb1⟩
      go_wp2_with fail
      go_ret
      exact ⟨rfl, hb1⟩
    · rw [u1] at u
      rw [u2]
      have U := Lib.hid u
      clear u u1 u2
      go_enter Try.func52, Try.ntmps52
      go_wp2_with fail
      refine U.out.mono ?_
      rintro e w1 ⟨rfl, hb1⟩
      go_wp2_with fail
      go_ret
      exact ⟨rfl, hb1⟩

theorem scale_one (a b : Nat) : scaleS a b 1 = mulS a b := by
  unfold scaleS mulS
  rw [if_neg (by omega), Nat.div_one]; rfl

set_option maxHeartbeats 400000 in
theorem mul_any (a b : Nat) (ha : a < 18446744073709551616) (hb : b < 18446744073709551616) (w : World) :
    Calls Try.prog 50 #[.int .u64 a, .int .u64 b] w fun e w' => e = .returned (.int .u64 (mulS a b : Nat)) ∧ Below w.heap.size w w' := by
  have s := scale_any a b 1 ha hb (by omega) w
  rw [scale_one] at s
  generalize mulS a b = m at *
  have S := Lib.hid s
  clear s
  go_enter Try.func50, Try.ntmps50
  go_wp2_with fail
  refine S.out.mono ?_
  rintro e w1 ⟨rfl, hb1⟩
  go_wp2_with fail
  go_ret
  exact ⟨rfl, hb1⟩

set_option maxHeartbeats 400000 in
theorem refMul_any (a b : Nat) (ha : a < 18446744073709551616) (_hb : b < 18446744073709551616) (w : World) :
    Calls Try.prog 51 #[.int .u64 a, .int .u64 b] w fun e w' => e = .returned (.int .u64 (mulS a b : Nat)) ∧ w = w' := by
  rcases Nat.eq_zero_or_pos a with rfl | ha0
  · have e : mulS 0 b = 0 := by simp [mulS, sat]
    rw [e]
    clear e
    go_enter Try.func51, Try.ntmps51
    go_wp2_with fail
    go_ret
    exact ⟨rfl, rfl⟩
  · have a0 : ((a : Int) == 0) = false := by simp; omega
    have a1 : ((a : Int) != 0) = true := by simp; omega
    have d1 : (18446744073709551615 : Int) / (a : Int) = ((18446744073709551615 / a : Nat) : Int) := by rw [Int.natCast_ediv]; rfl
    have dl : 18446744073709551615 / a < 18446744073709551616 := Nat.lt_of_le_of_lt (Nat.div_le_self _ _) (by omega)
    have dw : IntKind.u64.wrap ((18446744073709551615 / a : Nat) : Int) = ((18446744073709551615 / a : Nat) : Int) := wrapNat _ dl
    have key : 18446744073709551615 / a < b ↔ 18446744073709551615 < a * b := by rw [Nat.div_lt_iff_lt_mul ha0, Nat.mul_comm]
    have mm : IntKind.u64.wrap ((a : Int) * (b : Int)) = ((a * b % 18446744073709551616 : Nat) : Int) := by rw [mulN, Mul64.wrapM]
    by_cases h : 18446744073709551615 / a < b
    · have e : mulS a b = 18446744073709551615 := by have := key.1 h; unfold mulS sat; omega
      rw [e]
      have h1 : decide (18446744073709551615 / a < b) = true := decide_eq_true h
      generalize 18446744073709551615 / a = t at *
      clear e mm key
      go_enter Try.func51, Try.ntmps51
      go_wp2_with fail
      go_ret
      exact ⟨rfl, rfl⟩
    · have e : mulS a b = a * b % 18446744073709551616 := by have := mt key.2 h; unfold mulS sat; omega
      rw [e]
      have h1 : decide (18446744073709551615 / a < b) = false := decide_eq_false h
      generalize 18446744073709551615 / a = t at *
      generalize a * b % 18446744073709551616 = p at *
      clear e key
      go_enter Try.func51, Try.ntmps51
      go_wp2_with fail
      go_ret
      exact ⟨rfl, rfl⟩

end Go.Proofs.Ytnpjacfefocjnaa
