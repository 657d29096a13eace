/-
  THE LAWS OF LAYER 03 (nice), the walks, first part. For every input each returns true. No conditions.
-/
import Derived.Test.YtnpjacfefocjnaaNice7
namespace Go.Proofs.Ytnpjacfefocjnaa
open Go.ChangeShapes Go.WideShapes Go.ChangeAt Go.RowKit

namespace niceNearest
set_option maxRecDepth 100000 in
set_option maxHeartbeats 1000000 in
theorem walk (v : Nat) (hv : v < 18446744073709551616) (w : World) : Calls Try.prog 10 #[.int .u64 v] w fun e w' => e = .returned (.bool true) ∧ Below w.heap.size w w' := by
  have M1 := Lib.hid fun W => nearest_any v W
  have M2 := Lib.hid fun W => refNearest_any v hv W
  generalize down v 39 = d at *
  go_enter Try.func10, Try.ntmps10
  go_wp2_with fail
  refine (awake03 _).mono ?_
  rintro e w1 ⟨rfl, hb1⟩
  have hz1 := hb1.size
  go_wp2_with fail
  refine (M1.out _).mono ?_
  rintro e w2 ⟨rfl, hb2⟩
  have hz2 := hb2.size
  go_wp2_with fail
  refine (M2.out _).mono ?_
  rintro e w3 ⟨rfl, hb3⟩
  have hz3 := hb3.size
  go_wp2_with fail
  go_ret
  have B1 := hb1
  have B2 := B1.trans (hb2.mono (by omega))
  have B3 := B2.trans (hb3.mono (by omega))
  exact ⟨rfl, B3⟩
end niceNearest

namespace niceNone
set_option maxRecDepth 100000 in
set_option maxHeartbeats 1000000 in
theorem walk (n : Int) (h1 : -9223372036854775808 ≤ n) (h2 : n ≤ 9223372036854775807) (w : World) : Calls Try.prog 14 #[.int .i64 n] w fun e w' => e = .returned (.bool true) ∧ Below w.heap.size w w' := by
  by_cases hn : n < -20 ∨ 19 < n
  · have M1 := Lib.hid fun W => nweight_no n hn W
    by_cases hl : n < -20
    · have t1 : decide (-20 ≤ n) = false := decide_eq_false (by omega)
      clear hn
      go_enter Try.func14, Try.ntmps14
      go_wp2_with fail
      refine (awake03 _).mono ?_
      rintro e w1 ⟨rfl, hb1⟩
      have hz1 := hb1.size
      go_wp2_with fail
      refine (M1.out _).mono ?_
      rintro e w2 ⟨rfl, hb2⟩
      have hz2 := hb2.size
      go_wp2_with fail
      go_ret
      have B1 := hb1
      have B2 := B1.trans (hb2.mono (by omega))
      exact ⟨rfl, B2⟩
    · have t1 : decide (-20 ≤ n) = true := decide_eq_true (by omega)
      have t2 : decide (n ≤ 19) = false := decide_eq_false (by omega)
      clear hn
      go_enter Try.func14, Try.ntmps14
      go_wp2_with fail
      refine (awake03 _).mono ?_
      rintro e w1 ⟨rfl, hb1⟩
      have hz1 := hb1.size
      go_wp2_with fail
      refine (M1.out _).mono ?_
      rintro e w2 ⟨rfl, hb2⟩
      have hz2 := hb2.size
      go_wp2_with fail
      go_ret
      have B1 := hb1
      have B2 := B1.trans (hb2.mono (by omega))
      exact ⟨rfl, B2⟩
  · have M1 := Lib.hid fun W => nweight_yes n (by omega) (by omega) W
    have t1 : decide (-20 ≤ n) = true := decide_eq_true (by omega)
    have t2 : decide (n ≤ 19) = true := decide_eq_true (by omega)
    generalize wgt n = x at *
    clear hn
    go_enter Try.func14, Try.ntmps14
    go_wp2_with fail
    refine (awake03 _).mono ?_
    rintro e w1 ⟨rfl, hb1⟩
    have hz1 := hb1.size
    go_wp2_with fail
    refine (M1.out _).mono ?_
    rintro e w2 ⟨rfl, hb2⟩
    have hz2 := hb2.size
    go_wp2_with fail
    go_ret
    have B1 := hb1
    have B2 := B1.trans (hb2.mono (by omega))
    exact ⟨rfl, B2⟩
end niceNone

namespace niceAcross
theorem law : ∀ k, k < 20 → 1 ≤ wgt (k : Nat) ∧ wgt (k : Nat) ≤ wgt (-(k : Nat) : Int) ∧ wgt (k : Nat) * wgt (-(k : Nat) : Int) ≤ 1048576 ∧ 1048576 ≤ wgt (k : Nat) * wgt (-(k : Nat) : Int) + wgt (k : Nat) + wgt (-(k : Nat) : Int) + 1 ∧ wgt (-(k : Nat) : Int) ≤ 262144 := by decide +kernel
set_option maxRecDepth 100000 in
set_option maxHeartbeats 1000000 in
theorem walk (n : Nat) (hn : n < 256) (w : World) : Calls Try.prog 12 #[.int .u8 n] w fun e w' => e = .returned (.bool true) ∧ Below w.heap.size w w' := by
  obtain ⟨k, hk⟩ : ∃ k, k = n % 20 := ⟨_, rfl⟩
  have k20 : k < 20 := by omega
  have e1 : (n : Int) % 20 = (k : Int) := by omega
  obtain ⟨l1, l2, l3, l4, l5⟩ := law k k20
  have M1 := Lib.hid fun W => nweight_yes (k : Int) (by omega) (by omega) W
  have M2 := Lib.hid fun W => nweight_yes (-(k : Int)) (by omega) (by omega) W
  clear hk
  generalize wgt (k : Int) = a at *
  generalize wgt (-(k : Int)) = b at *
  obtain ⟨m, hm⟩ : ∃ m, m = a * b := ⟨_, rfl⟩
  have p1 : (a : Int) * (b : Int) = (m : Int) := by rw [hm, Int.natCast_mul]
  rw [← hm] at l3 l4
  have t1 : decide (a < 1) = false := decide_eq_false (by omega)
  have t1' : decide ((a : Int) < 1) = false := decide_eq_false (by omega)
  have t2 : decide (b < a) = false := decide_eq_false (by omega)
  have t3 : decide ((m : Int) ≤ 1048576) = true := decide_eq_true (by omega)
  have t4 : decide ((1048576 : Int) ≤ (m : Int) + a + b + 1) = true := decide_eq_true (by omega)
  clear hm
  go_enter Try.func12, Try.ntmps12
  go_wp2_with fail
  refine (awake03 _).mono ?_
  rintro e w1 ⟨rfl, hb1⟩
  have hz1 := hb1.size
  go_wp2_with fail
  refine (M1.out _).mono ?_
  rintro e w2 ⟨rfl, hb2⟩
  have hz2 := hb2.size
  go_wp2_with fail
  refine (M2.out _).mono ?_
  rintro e w3 ⟨rfl, hb3⟩
  have hz3 := hb3.size
  go_wp2_with fail
  go_ret
  have B1 := hb1
  have B2 := B1.trans (hb2.mono (by omega))
  have B3 := B2.trans (hb3.mono (by omega))
  exact ⟨rfl, B3⟩
end niceAcross

end Go.Proofs.Ytnpjacfefocjnaa
