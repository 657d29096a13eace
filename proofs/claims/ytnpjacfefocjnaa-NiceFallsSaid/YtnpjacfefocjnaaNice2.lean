/-
  doleref03.Weight: what it computes.
-/
import Derived.Test.YtnpjacfefocjnaaNice
namespace Go.Proofs.Ytnpjacfefocjnaa
open Go.RowKit

set_option maxRecDepth 100000 in
set_option maxHeartbeats 400000 in
theorem refNweight_no (n : Int) (h : n < -20 ∨ 19 < n) (w : World) :
    Calls Try.prog 70 #[.int .i64 n] w fun e w' => e = .returned (.tuple #[.int .u64 0, .int .i64 1]) ∧ Below w.heap.size w w' := by
  by_cases h1 : n < -20
  · have t1 : decide (n < -20) = true := decide_eq_true h1
    clear h
    go_enter Try.func70, Try.ntmps70
    go_wp2_with fail
    go_ret2
    exact ⟨rfl, Below.refl _ _⟩
  · have t1 : decide (n < -20) = false := decide_eq_false h1
    have t2 : decide (19 < n) = true := decide_eq_true (by omega)
    clear h
    go_enter Try.func70, Try.ntmps70
    go_wp2_with fail
    go_ret2
    exact ⟨rfl, Below.refl _ _⟩

/-- what lies in the two variables when k rounds are over -/
def upPow (x k : Nat) : Nat := 1024 * x ^ k
theorem upPow_zero (x : Nat) : upPow x 0 = 1024 := by simp [upPow]
theorem upPow_succ (x k : Nat) : upPow x k * x = upPow x (k + 1) := by simp [upPow, Nat.pow_succ, Nat.mul_assoc]
theorem upPow_lt4 (k : Nat) (hk : k ≤ 20) : upPow 4 k < 18446744073709551616 := by have := four_le k hk; unfold upPow; omega
theorem upPow_lt5 (k : Nat) (hk : k ≤ 20) : upPow 5 k < 18446744073709551616 := by have := five_le k hk; unfold upPow; omega

set_option maxRecDepth 100000 in
set_option maxHeartbeats 400000 in
theorem refNweight_pos (k : Nat) (hk : k ≤ 19) (w : World) :
    Calls Try.prog 70 #[.int .i64 (k : Nat)] w fun e w' => e = .returned (.tuple #[.int .u64 (wgt (k : Int) : Nat), .int .i64 0]) ∧ Below w.heap.size w w' := by
  have ew : wgt (k : Int) = upPow 4 k / 5 ^ k := by unfold wgt upPow; rw [if_neg (by omega), Int.toNat_natCast]
  obtain ⟨R, hR⟩ : ∃ R, R = wgt (k : Int) := ⟨_, rfl⟩
  rw [← hR] at ew ⊢
  have EW := Lib.hid ew
  clear hR ew
  have t1 : decide ((k : Int) < -20) = false := decide_eq_false (by omega)
  have t2 : decide ((19 : Int) < (k : Int)) = false := decide_eq_false (by omega)
  have t2b : decide (19 < k) = false := decide_eq_false (by omega)
  have t3 : decide ((k : Int) < (0 : Int)) = false := decide_eq_false (by omega)
  go_enter Try.func70, Try.ntmps70
  go_wp2_with fail
  go_loop [4, 5, 6] (fun s4 s5 s6 => ∃ j a b : Nat, j ≤ k ∧ s6 = .int .i64 j ∧ s4 = .int .u64 a ∧ s5 = .int .u64 b ∧ Hid (a = upPow 4 j) ∧ Hid (b = 5 ^ j)) (fun _ _ s6 => k - (intOf s6).toNat)
  case atStart => exact ⟨0, 1024, 1, by omega, rfl, rfl, rfl, (upPow_zero 4).symm, by simp [Hid]⟩
  case round =>
    obtain ⟨j, a, b, hj, rfl, rfl, rfl, Ha, Hb⟩ := hrel
    by_cases hlt : j < k
    · have z1 : decide ((j : Int) < (k : Int)) = true := decide_eq_true (by omega)
      have z2 : decide (j < k) = true := decide_eq_true hlt
      have b1 := five_le (j + 1) (by omega)
      have b2 := upPow_lt4 (j + 1) (by omega)
      have e1 : (a : Int) * 4 = ((upPow 4 (j + 1) : Nat) : Int) := by rw [Ha.out, ← upPow_succ]; simp
      have e2 : (b : Int) * 5 = ((5 ^ (j + 1) : Nat) : Int) := by rw [Hb.out, Nat.pow_succ]; simp
      generalize hq : upPow 4 (j + 1) = q at *
      generalize hr : 5 ^ (j + 1) = r at *
      have HQ := Lib.hid hq.symm
      have HR := Lib.hid hr.symm
      clear hq hr Ha Hb
      go_wp2_with fail
      go_round
      case rel => exact ⟨j + 1, q, r, by omega, by go_num, rfl, rfl, HQ, HR⟩
      case measure => simp [intOf]; omega
    · obtain rfl : j = k := by omega
      have z1 : decide ((j : Int) < (j : Int)) = false := decide_eq_false (by omega)
      have z2 : decide (j < j) = false := decide_eq_false (by omega)
      have b1 := five_le j (by omega)
      have b2 := upPow_lt4 j (by omega)
      have hb0 : 0 < b := by rw [Hb.out]; exact Nat.pow_pos (by omega)
      have e1 : a / b = R := by rw [Ha.out, Hb.out, EW.out]
      rw [← Ha.out] at b2
      rw [← Hb.out] at b1
      have e2 : (a : Int) / (b : Int) = (R : Int) := by rw [← e1]; exact (Int.natCast_ediv a b).symm
      have bz : ((b : Int) == 0) = false := by simp; omega
      have e3 : R < 18446744073709551616 := by rw [← e1]; exact Nat.lt_of_le_of_lt (Nat.div_le_self _ _) b2
      clear Ha Hb EW e1
      go_wp2_with fail
      go_loop [4, 5, 7] (fun s4 s5 s7 => s4 = .int .u64 a ∧ s5 = .int .u64 b ∧ s7 = .int .i64 0) (fun _ _ _ => 0)
      case atStart => exact ⟨rfl, rfl, rfl⟩
      case round =>
        obtain ⟨rfl, rfl, rfl⟩ := hrel
        go_wp2_with fail
        go_ret2
        exact ⟨rfl, Below.refl _ _⟩

set_option maxRecDepth 100000 in
set_option maxHeartbeats 400000 in
theorem refNweight_neg (k : Nat) (h0 : 0 < k) (hk : k ≤ 20) (w : World) :
    Calls Try.prog 70 #[.int .i64 (-(k : Int))] w fun e w' => e = .returned (.tuple #[.int .u64 (wgt (-(k : Int)) : Nat), .int .i64 0]) ∧ Below w.heap.size w w' := by
  have ew : wgt (-(k : Int)) = upPow 5 k / 4 ^ k := by unfold wgt upPow; rw [if_pos (by omega), Int.neg_neg, Int.toNat_natCast]
  obtain ⟨R, hR⟩ : ∃ R, R = wgt (-(k : Int)) := ⟨_, rfl⟩
  rw [← hR] at ew ⊢
  have EW := Lib.hid ew
  clear hR ew
  obtain ⟨n, hn⟩ : ∃ n : Int, n = -(k : Int) := ⟨_, rfl⟩
  rw [← hn]
  have t1 : decide (n < -20) = false := decide_eq_false (by omega)
  have t2 : decide (19 < n) = false := decide_eq_false (by omega)
  have t3 : decide ((0 : Int) < n) = false := decide_eq_false (by omega)
  have HN := Lib.hid hn
  clear hn
  go_enter Try.func70, Try.ntmps70
  go_wp2_with fail
  go_loop [4, 5, 6] (fun s4 s5 s6 => s4 = .int .u64 1024 ∧ s5 = .int .u64 1 ∧ s6 = .int .i64 0) (fun _ _ _ => 0)
  case atStart => exact ⟨rfl, rfl, rfl⟩
  case round =>
    obtain ⟨rfl, rfl, rfl⟩ := hrel
    go_wp2_with fail
    go_loop [4, 5, 7] (fun s4 s5 s7 => ∃ (j a b : Nat) (i : Int), j ≤ k ∧ Hid (i = -(j : Int)) ∧ s7 = .int .i64 i ∧ s4 = .int .u64 a ∧ s5 = .int .u64 b ∧ Hid (a = upPow 5 j) ∧ Hid (b = 4 ^ j)) (fun _ _ s7 => k - (-(intOf s7)).toNat)
    case atStart => exact ⟨0, 1024, 1, 0, by omega, by simp [Hid], rfl, rfl, rfl, (upPow_zero 5).symm, by simp [Hid]⟩
    case round =>
      obtain ⟨j, a, b, i, hj, HI, rfl, rfl, rfl, Ha, Hb⟩ := hrel
      have hi := HI.out
      have hn := HN.out
      by_cases hlt : j < k
      · have z1 : decide (n < i) = true := decide_eq_true (by omega)
        have b1 := four_le (j + 1) (by omega)
        have b2 := upPow_lt5 (j + 1) (by omega)
        have e1 : (a : Int) * 5 = ((upPow 5 (j + 1) : Nat) : Int) := by rw [Ha.out, ← upPow_succ]; simp
        have e2 : (b : Int) * 4 = ((4 ^ (j + 1) : Nat) : Int) := by rw [Hb.out, Nat.pow_succ]; simp
        generalize hq : upPow 5 (j + 1) = q at *
        generalize hr : 4 ^ (j + 1) = r at *
        have HQ := Lib.hid hq.symm
        have HR := Lib.hid hr.symm
        clear hq hr Ha Hb
        obtain ⟨i', hi'⟩ : ∃ i', i' = i - 1 := ⟨_, rfl⟩
        have e3 : i - 1 = i' := hi'.symm
        have HJ : Hid (i' = -((j + 1 : Nat) : Int)) := Lib.hid (by omega)
        have e4 : -9223372036854775808 ≤ i' := by omega
        have e5 : i' ≤ 9223372036854775807 := by omega
        have HM : Hid (-i' = (j : Int) + 1) := Lib.hid (by omega)
        clear hi hn hi' HI
        go_wp2_with fail
        go_round
        case rel => exact ⟨j + 1, q, r, i', by omega, HJ, by go_num, rfl, rfl, HQ, HR⟩
        case measure =>
          have hi := HM.out
          simp [intOf]
          omega
      · obtain rfl : j = k := by omega
        obtain rfl : i = n := by omega
        have z1 : decide (i < i) = false := decide_eq_false (by omega)
        have b1 := four_le j (by omega)
        have b2 := upPow_lt5 j (by omega)
        have hb0 : 0 < b := by rw [Hb.out]; exact Nat.pow_pos (by omega)
        have e1 : a / b = R := by rw [Ha.out, Hb.out, EW.out]
        rw [← Ha.out] at b2
        rw [← Hb.out] at b1
        have e2 : (a : Int) / (b : Int) = (R : Int) := by rw [← e1]; exact (Int.natCast_ediv a b).symm
        have bz : ((b : Int) == 0) = false := by simp; omega
        have e3 : R < 18446744073709551616 := by rw [← e1]; exact Nat.lt_of_le_of_lt (Nat.div_le_self _ _) b2
        clear Ha Hb EW e1 hi hn
        go_wp2_with fail
        go_ret2
        exact ⟨rfl, Below.refl _ _⟩

theorem refNweight_yes (n : Int) (h1 : -20 ≤ n) (h2 : n ≤ 19) (w : World) :
    Calls Try.prog 70 #[.int .i64 n] w fun e w' => e = .returned (.tuple #[.int .u64 (wgt n : Nat), .int .i64 0]) ∧ Below w.heap.size w w' := by
  by_cases hn : n < 0
  · obtain ⟨k, rfl⟩ : ∃ k : Nat, n = -(k : Int) := ⟨(-n).toNat, by omega⟩
    exact refNweight_neg k (by omega) (by omega) w
  · obtain ⟨k, rfl⟩ := Int.eq_ofNat_of_zero_le (show 0 ≤ n by omega)
    exact refNweight_pos k (by omega) w

end Go.Proofs.Ytnpjacfefocjnaa
