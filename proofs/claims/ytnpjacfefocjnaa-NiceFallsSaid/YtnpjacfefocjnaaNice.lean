/-
  nice.power, Weight: what they compute.
-/
import Derived.Test.YtnpjacfefocjnaaMul
namespace Go.Proofs.Ytnpjacfefocjnaa
open Go.RowKit

theorem pow_le_of (n j k : Nat) (hn : 0 < n) (h : j ≤ k) : n ^ j ≤ n ^ k := Nat.pow_le_pow_right hn h

set_option maxRecDepth 100000 in
set_option maxHeartbeats 400000 in
theorem power_any (n k : Nat) (hn : 0 < n) (hk : k ≤ 64) (h : n ^ k < 18446744073709551616) (w : World) :
    Calls Try.prog 97 #[.int .u64 n, .int .i64 k] w fun e w' => e = .returned (.int .u64 (n ^ k : Nat)) ∧ w = w' := by
  obtain ⟨R, hR⟩ : ∃ R, R = n ^ k := ⟨_, rfl⟩
  rw [← hR]
  have HR := Lib.hid hR
  clear hR
  go_enter Try.func97, Try.ntmps97
  go_wp2_with fail
  go_loop [5, 7] (fun s5 s7 => ∃ j p : Nat, j ≤ k ∧ s7 = .int .i64 j ∧ s5 = .int .u64 p ∧ Hid (p = n ^ j)) (fun _ s7 => k - (intOf s7).toNat)
  case atStart => exact ⟨0, 1, by omega, rfl, rfl, by simp [Hid]⟩
  case round =>
    obtain ⟨j, p, hj, rfl, rfl, H⟩ := hrel
    by_cases hlt : j < k
    · have z1 : decide ((j : Int) < (k : Int)) = true := decide_eq_true (by omega)
      have z2 : decide (j < k) = true := decide_eq_true hlt
      have e1 : p * n = n ^ (j + 1) := by rw [H.out, Nat.pow_succ]
      have e2 : n ^ (j + 1) < 18446744073709551616 := Nat.lt_of_le_of_lt (pow_le_of n _ _ hn hlt) h
      have e3 : (p : Int) * (n : Int) = ((n ^ (j + 1) : Nat) : Int) := by rw [← e1, Int.natCast_mul]
      generalize hq : n ^ (j + 1) = q at *
      have HQ := Lib.hid hq.symm
      clear hq h e1
      go_wp2_with fail
      go_round
      case rel => exact ⟨j + 1, q, by omega, by go_num, rfl, HQ⟩
      case measure => simp [intOf]; omega
    · obtain rfl : j = k := by omega
      obtain rfl : p = R := by rw [H.out, HR.out]
      have z1 : decide ((j : Int) < (j : Int)) = false := decide_eq_false (by omega)
      clear h
      go_wp2_with fail
      go_ret
      exact ⟨rfl, rfl⟩

/-- a nice number's weight -/
def wgt (n : Int) : Nat := if n < 0 then 1024 * 5 ^ (-n).toNat / 4 ^ (-n).toNat else 1024 * 4 ^ n.toNat / 5 ^ n.toNat

theorem md_pow (x y k : Nat) (hx : 0 < x) (hy : 0 < y) (h : 1024 * x ^ k < 18446744073709551616) : mdOk 1024 (x ^ k) (y ^ k) = true ∧ mdQ 1024 (x ^ k) (y ^ k) = 1024 * x ^ k / y ^ k := by
  have hp : 1 ≤ y ^ k := Nat.pow_pos hy
  have h1 : 1024 * x ^ k < y ^ k * 18446744073709551616 := by
    have := Nat.mul_le_mul_right 18446744073709551616 hp
    omega
  exact ⟨decide_eq_true h1, if_pos h1⟩
theorem five_le (k : Nat) (hk : k ≤ 20) : 5 ^ k ≤ 95367431640625 := by
  have : 5 ^ k ≤ 5 ^ 20 := Nat.pow_le_pow_right (by omega) hk
  exact this
theorem four_le (k : Nat) (hk : k ≤ 20) : 4 ^ k ≤ 1099511627776 := by
  have : 4 ^ k ≤ 4 ^ 20 := Nat.pow_le_pow_right (by omega) hk
  exact this

set_option maxRecDepth 100000 in
set_option maxHeartbeats 400000 in
theorem nweight_no (n : Int) (h : n < -20 ∨ 19 < n) (w : World) :
    Calls Try.prog 46 #[.int .i64 n] w fun e w' => e = .returned (.tuple #[.int .u64 0, .int .i64 1]) ∧ Below w.heap.size w w' := by
  by_cases h1 : n < -20
  · have t1 : decide (n < -20) = true := decide_eq_true h1
    clear h
    go_enter Try.func46, Try.ntmps46
    go_wp2_with fail
    go_ret2
    exact ⟨rfl, Below.refl _ _⟩
  · have t1 : decide (n < -20) = false := decide_eq_false h1
    have t2 : decide (19 < n) = true := decide_eq_true (by omega)
    clear h
    go_enter Try.func46, Try.ntmps46
    go_wp2_with fail
    go_ret2
    exact ⟨rfl, Below.refl _ _⟩

set_option maxRecDepth 100000 in
set_option maxHeartbeats 400000 in
theorem nweight_yes (n : Int) (h1 : -20 ≤ n) (h2 : n ≤ 19) (w : World) :
    Calls Try.prog 46 #[.int .i64 n] w fun e w' => e = .returned (.tuple #[.int .u64 (wgt n : Nat), .int .i64 0]) ∧ Below w.heap.size w w' := by
  have t1 : decide (n < -20) = false := decide_eq_false (by omega)
  have t2 : decide (19 < n) = false := decide_eq_false (by omega)
  by_cases hn : n < 0
  · obtain ⟨k, hk⟩ : ∃ k : Nat, k = (-n).toNat := ⟨_, rfl⟩
    have ek : -n = (k : Int) := by omega
    have k20 : k ≤ 20 := by omega
    have b5 := five_le k k20
    have b4 := four_le k k20
    have ew : wgt n = 1024 * 5 ^ k / 4 ^ k := by unfold wgt; rw [if_pos hn, hk]
    obtain ⟨o1, o2⟩ := md_pow 5 4 k (by omega) (by omega) (by omega)
    rw [← ew] at o2
    have m1 := fun W => power_any 5 k (by omega) (by omega) (by omega) W
    have m2 := fun W => power_any 4 k (by omega) (by omega) (by omega) W
    have m3 := fun W => mulDiv_any 1024 (5 ^ k) (4 ^ k) (by omega) (by omega) (by omega) W
    rw [o1, o2] at m3
    have t3 : decide (n < 0) = true := decide_eq_true hn
    clear hk o1 o2 ew
    generalize wgt n = R at *
    generalize mdR 1024 (5 ^ k) (4 ^ k) = r at *
    generalize 5 ^ k = x at *
    generalize 4 ^ k = y at *
    have M1 := Lib.hid m1
    have M2 := Lib.hid m2
    have M3 := Lib.hid m3
    clear m1 m2 m3
    go_enter Try.func46, Try.ntmps46
    go_wp2_with fail
    refine (M1.out _).mono ?_
    rintro e w1 ⟨rfl, rfl⟩
    go_wp2_with fail
    refine (M2.out _).mono ?_
    rintro e w2 ⟨rfl, rfl⟩
    go_wp2_with fail
    refine (M3.out _).mono ?_
    rintro e w3 ⟨rfl, hb3⟩
    go_wp2_with fail
    go_ret2
    exact ⟨rfl, hb3⟩
  · obtain ⟨k, rfl⟩ := Int.eq_ofNat_of_zero_le (show 0 ≤ n by omega)
    have k20 : k ≤ 19 := by omega
    have b5 := five_le k (by omega)
    have b4 := four_le k (by omega)
    have ew : wgt (k : Int) = 1024 * 4 ^ k / 5 ^ k := by unfold wgt; rw [if_neg hn, Int.toNat_natCast]
    obtain ⟨o1, o2⟩ := md_pow 4 5 k (by omega) (by omega) (by omega)
    rw [← ew] at o2
    have m1 := fun W => power_any 4 k (by omega) (by omega) (by omega) W
    have m2 := fun W => power_any 5 k (by omega) (by omega) (by omega) W
    have m3 := fun W => mulDiv_any 1024 (4 ^ k) (5 ^ k) (by omega) (by omega) (by omega) W
    rw [o1, o2] at m3
    have t3 : decide ((k : Int) < 0) = false := decide_eq_false hn
    clear o1 o2 ew
    generalize wgt (k : Int) = R at *
    generalize mdR 1024 (4 ^ k) (5 ^ k) = r at *
    generalize 4 ^ k = x at *
    generalize 5 ^ k = y at *
    have M1 := Lib.hid m1
    have M2 := Lib.hid m2
    have M3 := Lib.hid m3
    clear m1 m2 m3
    go_enter Try.func46, Try.ntmps46
    go_wp2_with fail
    refine (M1.out _).mono ?_
    rintro e w1 ⟨rfl, rfl⟩
    go_wp2_with fail
    refine (M2.out _).mono ?_
    rintro e w2 ⟨rfl, rfl⟩
    go_wp2_with fail
    refine (M3.out _).mono ?_
    rintro e w3 ⟨rfl, hb3⟩
    go_wp2_with fail
    go_ret2
    exact ⟨rfl, hb3⟩

end Go.Proofs.Ytnpjacfefocjnaa
