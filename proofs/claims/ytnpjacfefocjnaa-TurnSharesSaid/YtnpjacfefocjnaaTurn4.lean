/-
  doleref21.New, Begin, Tick: a clock by value.
-/
import Derived.Test.YtnpjacfefocjnaaTurn3
namespace Go.Proofs.Ytnpjacfefocjnaa
open Go.RowKit

/-- a clock by value -/
abbrev turnV (L : Nat) (k : Int) (r bu id : Nat) : Value := .agg #[.int .u64 L, .int .i64 k, .int .u64 r, .int .u64 bu, .int .u64 id]

set_option maxRecDepth 100000 in
theorem refNew_no (l : Nat) (h : l < 1 ∨ 1000000000 < l) (w : World) :
    Calls Try.prog 82 #[.int .u64 l] w fun e w' => e = .returned (.tuple #[turnV 0 0 0 0 0, .int .i64 1]) ∧ Below w.heap.size w w' := by
  by_cases h1 : l < 1
  · have t1 : decide (l < 1) = true := decide_eq_true h1
    have t2 : decide ((l : Int) < 1) = true := decide_eq_true (by omega)
    clear h
    go_enter Try.func82, Try.ntmps82
    go_wp2_with fail
    exact bodyPost_ret (v := .tuple #[turnV 0 0 0 0 0, .int .i64 1]) (by simp [results, Try.results82, go_sem]) rfl ⟨rfl, (Below.refl _ _).alloc (Nat.le_refl _) _⟩
  · have t1 : decide (l < 1) = false := decide_eq_false h1
    have t2 : decide ((l : Int) < 1) = false := decide_eq_false (by omega)
    have t3 : decide (1000000000 < l) = true := decide_eq_true (by omega)
    have t4 : decide ((1000000000 : Int) < (l : Int)) = true := decide_eq_true (by omega)
    clear h
    go_enter Try.func82, Try.ntmps82
    go_wp2_with fail
    exact bodyPost_ret (v := .tuple #[turnV 0 0 0 0 0, .int .i64 1]) (by simp [results, Try.results82, go_sem]) rfl ⟨rfl, (Below.refl _ _).alloc (Nat.le_refl _) _⟩

set_option maxRecDepth 100000 in
theorem refNew_yes (l : Nat) (h1 : 1 ≤ l) (h2 : l ≤ 1000000000) (w : World) :
    Calls Try.prog 82 #[.int .u64 l] w fun e w' => e = .returned (.tuple #[turnV l (-1) 0 0 0, .int .i64 0]) ∧ Below w.heap.size w w' := by
  have t1 : decide (l < 1) = false := decide_eq_false (by omega)
  have t2 : decide ((l : Int) < 1) = false := decide_eq_false (by omega)
  have t3 : decide (1000000000 < l) = false := decide_eq_false (by omega)
  have t4 : decide ((1000000000 : Int) < (l : Int)) = false := decide_eq_false (by omega)
  go_enter Try.func82, Try.ntmps82
  go_wp2_with fail
  exact bodyPost_ret (v := .tuple #[turnV l (-1) 0 0 0, .int .i64 0]) (by simp [results, Try.results82, go_sem]) rfl ⟨rfl, (Below.refl _ _).alloc (Nat.le_refl _) _⟩

set_option maxRecDepth 100000 in
theorem refBegin_any (L : Nat) (k : Int) (r bu id : Nat) (w : World) (k' : Int) :
    Calls Try.prog 84 #[turnV L k r bu id, .int .i64 k'] w fun e w' => e = .returned (turnV L (taskOf k') (ranOf k k' r) bu id) ∧ Below w.heap.size w w' := by
  by_cases hn : k' < 0
  · have t1 : decide (k' < 0) = true := decide_eq_true hn
    have e0 : taskOf k' = -1 := if_pos hn
    by_cases h : (-1 : Int) = k
    · subst h
      have e1 : ranOf (-1) k' r = r := if_pos e0
      rw [e0, e1]
      clear e0 e1
      go_enter Try.func84, Try.ntmps84
      go_wp2_with fail
      exact bodyPost_ret (v := turnV L (-1) r bu id) (by simp [results, Try.results84, go_sem]) rfl ⟨rfl, by repeat (first | exact Below.refl _ _ | refine Below.setCell ?_ (by simp) _ | refine Below.alloc ?_ (by simp; try omega) _)⟩
    · have e1 : ranOf k k' r = 0 := if_neg (by rw [e0]; exact h)
      have t2 : ((-1 : Int) != k) = true := by rw [bne_iff_ne]; exact h
      rw [e0, e1]
      clear e0 e1 h
      go_enter Try.func84, Try.ntmps84
      go_wp2_with fail
      exact bodyPost_ret (v := turnV L (-1) 0 bu id) (by simp [results, Try.results84, go_sem]) rfl ⟨rfl, by repeat (first | exact Below.refl _ _ | refine Below.setCell ?_ (by simp) _ | refine Below.alloc ?_ (by simp; try omega) _)⟩
  · have t1 : decide (k' < 0) = false := decide_eq_false hn
    have e0 : taskOf k' = k' := if_neg hn
    by_cases h : k' = k
    · subst h
      have e1 : ranOf k' k' r = r := if_pos e0
      have t2 : (k' != k') = false := by simp
      rw [e0, e1]
      clear e0 e1
      go_enter Try.func84, Try.ntmps84
      go_wp2_with fail
      exact bodyPost_ret (v := turnV L k' r bu id) (by simp [results, Try.results84, go_sem]) rfl ⟨rfl, by repeat (first | exact Below.refl _ _ | refine Below.setCell ?_ (by simp) _ | refine Below.alloc ?_ (by simp; try omega) _)⟩
    · have e1 : ranOf k k' r = 0 := if_neg (by rw [e0]; exact h)
      have t2 : (k' != k) = true := by rw [bne_iff_ne]; exact h
      rw [e0, e1]
      clear e0 e1 h
      go_enter Try.func84, Try.ntmps84
      go_wp2_with fail
      exact bodyPost_ret (v := turnV L k' 0 bu id) (by simp [results, Try.results84, go_sem]) rfl ⟨rfl, by repeat (first | exact Below.refl _ _ | refine Below.setCell ?_ (by simp) _ | refine Below.alloc ?_ (by simp; try omega) _)⟩

set_option maxRecDepth 100000 in
theorem refTick_much (L : Nat) (k : Int) (r bu id : Nat) (n x ld : Nat) (h : 1000000000 < n) (w : World) :
    Calls Try.prog 83 #[turnV L k r bu id, .int .u64 n, .int .u64 x, .int .u64 ld] w fun e w' => e = .returned (.tuple #[turnV L k r bu id, .bool false, .int .i64 8]) ∧ Below w.heap.size w w' := by
  have t1 : decide (1000000000 < n) = true := decide_eq_true h
  have t2 : decide ((1000000000 : Int) < (n : Int)) = true := decide_eq_true (by omega)
  go_enter Try.func83, Try.ntmps83
  go_wp2_with fail
  exact bodyPost_ret (v := .tuple #[turnV L k r bu id, .bool false, .int .i64 8]) (by simp [results, Try.results83, go_sem]) rfl ⟨rfl, by repeat (first | exact Below.refl _ _ | refine Below.setCell ?_ (by simp) _ | refine Below.alloc ?_ (by simp; try omega) _)⟩

set_option maxRecDepth 100000 in
theorem refTick_idle (L r bu id : Nat) (n x ld : Nat) (hn : n ≤ 1000000000) (hi : id < 18446744073709551616) (w : World) :
    Calls Try.prog 83 #[turnV L (-1) r bu id, .int .u64 n, .int .u64 x, .int .u64 ld] w fun e w' => e = .returned (.tuple #[turnV L (-1) r bu (sat (id + n)), .bool false, .int .i64 0]) ∧ Below w.heap.size w w' := by
  have t1 : decide (1000000000 < n) = false := decide_eq_false (by omega)
  have t2 : decide ((1000000000 : Int) < (n : Int)) = false := decide_eq_false (by omega)
  have M1 := Lib.hid fun W => more_any id n hi (by omega) W
  generalize sat (id + n) = s at *
  go_enter Try.func83, Try.ntmps83
  go_wp2_with fail
  refine (M1.out _).mono ?_
  rintro e w1 ⟨rfl, rfl⟩
  go_wp2_with fail
  exact bodyPost_ret (v := .tuple #[turnV L (-1) r bu s, .bool false, .int .i64 0]) (by simp [results, Try.results83, go_sem]) rfl ⟨rfl, by repeat (first | exact Below.refl _ _ | refine Below.setCell ?_ (by simp) _ | refine Below.alloc ?_ (by simp; try omega) _)⟩

set_option maxRecDepth 100000 in
set_option maxHeartbeats 8000000 in
theorem refTick_busy (L : Nat) (k : Int) (r bu id : Nat) (hk : 0 ≤ k) (n x ld : Nat) (hn : n ≤ 1000000000) (hr : r < 18446744073709551616) (hbu : bu < 18446744073709551616) (hL : L < 18446744073709551616) (hx : x < 18446744073709551616) (hd : ld < 18446744073709551616) (w : World) :
    Calls Try.prog 83 #[turnV L k r bu id, .int .u64 n, .int .u64 x, .int .u64 ld] w fun e w' => e = .returned (.tuple #[turnV L k (sat (r + n)) (sat (bu + n)) id, .bool (decide (sliceN L x ld ≤ sat (r + n))), .int .i64 0]) ∧ Below w.heap.size w w' := by
  have t1 : decide (1000000000 < n) = false := decide_eq_false (by omega)
  have t2 : decide ((1000000000 : Int) < (n : Int)) = false := decide_eq_false (by omega)
  have t3 : decide (k < 0) = false := decide_eq_false (by omega)
  have M1 := Lib.hid fun W => more_any r n hr (by omega) W
  have M2 := Lib.hid fun W => more_any bu n hbu (by omega) W
  have M3 := Lib.hid fun W => refSlice_any L x ld hL hx hd W
  generalize sat (r + n) = s at *
  generalize sat (bu + n) = u at *
  generalize sliceN L x ld = z at *
  obtain ⟨D, hD⟩ : ∃ D, D = decide (z ≤ s) := ⟨_, rfl⟩
  rw [← hD]
  have q1 : decide ((z : Int) ≤ (s : Int)) = D := by rw [hD]; simp
  have q2 : decide (z ≤ s) = D := hD.symm
  clear hD
  go_enter Try.func83, Try.ntmps83
  go_wp2_with fail
  refine (M1.out _).mono ?_
  rintro e w1 ⟨rfl, rfl⟩
  go_wp2_with fail
  refine (M2.out _).mono ?_
  rintro e w2 ⟨rfl, rfl⟩
  go_wp2_with fail
  go_region_with (go_at_call 88; refine (M3.out _).mono ?_; rintro e w' ⟨rfl, rfl⟩)
  all_goals
    go_wp2_with fail
    exact bodyPost_ret (v := .tuple #[turnV L k s u id, .bool D, .int .i64 0]) (by simp [results, Try.results83, go_sem]) rfl ⟨rfl, Below.drew (((Below.refl _ _).alloc (Nat.le_refl _) _).alloc (by simp) _)⟩

end Go.Proofs.Ytnpjacfefocjnaa
