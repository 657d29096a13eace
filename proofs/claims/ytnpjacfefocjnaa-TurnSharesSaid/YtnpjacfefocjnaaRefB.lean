/-
  doleref02: Up, Compare; dolelaw02.awake.
-/
import Derived.Test.YtnpjacfefocjnaaRef
namespace Go.Proofs.Ytnpjacfefocjnaa
open Go.RowKit

set_option maxHeartbeats 400000 in
theorem refUp_any (a b c : Nat) (ha : a < 18446744073709551616) (hb : b < 18446744073709551616) (hc : c < 18446744073709551616) (w : World) :
    Calls Try.prog 40 #[.int .u64 a, .int .u64 b, .int .u64 c] w fun e w' =>
      e = .returned (.tuple #[.int .u64 (upV a b c : Nat), .bool (upOk a b c)]) ∧ w = w' := by
  have md := refMulDiv_any a b c ha hb hc w
  unfold upV upOk
  have hq := mdQ_lt a b c
  have hr := mdR_lt a b c hc
  generalize mdQ a b c = q at *
  generalize mdR a b c = r at *
  generalize mdOk a b c = o at *
  have MD := Lib.hid md
  clear md
  cases o
  · go_enter Try.func40, Try.ntmps40
    go_wp2_with fail
    refine MD.out.mono ?_
    rintro e w1 ⟨rfl, rfl⟩
    go_wp2_with fail
    go_ret2
    exact ⟨by simp, rfl⟩
  · rcases Nat.eq_zero_or_pos r with rfl | hr0
    · go_enter Try.func40, Try.ntmps40
      go_wp2_with fail
      refine MD.out.mono ?_
      rintro e w1 ⟨rfl, rfl⟩
      go_wp2_with fail
      go_ret2
      exact ⟨by simp, rfl⟩
    · have hr1 : decide ((0 : Int) < (r : Int)) = true := decide_eq_true (by omega)
      have hr2 : decide (0 < r) = true := decide_eq_true (by omega)
      have hr3 : r ≠ 0 := by omega
      by_cases hq1 : q < 18446744073709551615
      · have hq2 : IntKind.u64.wrap ((q : Int) + 1) = ((q + 1 : Nat) : Int) := by rw [IntKind.wrap_u64]; omega
        have hq3 : ((q : Int) == 18446744073709551615) = false := by simp; omega
        simp only [hr3, hq1, if_true, if_false, decide_true, decide_false, Bool.false_or, Bool.true_and]
        go_enter Try.func40, Try.ntmps40
        go_wp2_with fail
        refine MD.out.mono ?_
        rintro e w1 ⟨rfl, rfl⟩
        go_wp2_with fail
        go_ret2
        exact ⟨by simp, rfl⟩
      · obtain rfl : q = 18446744073709551615 := by omega
        clear hq1
        simp only [hr3, if_true, if_false, decide_false, Bool.false_or, Bool.true_and, Nat.lt_irrefl]
        go_enter Try.func40, Try.ntmps40
        go_wp2_with fail
        refine MD.out.mono ?_
        rintro e w1 ⟨rfl, rfl⟩
        go_wp2_with fail
        go_ret2
        exact ⟨by simp, rfl⟩

set_option maxHeartbeats 400000 in
theorem refCompare_any (a b c d : Nat) (ha : a < 18446744073709551616) (hb : b < 18446744073709551616) (hc : c < 18446744073709551616) (hd : d < 18446744073709551616) (w : World) :
    Calls Try.prog 42 #[.int .u64 a, .int .u64 b, .int .u64 c, .int .u64 d] w fun e w' =>
      e = .returned (.int .i64 (cmpI a b c d)) ∧ w = w' := by
  have t1 := product_any a b ha hb w
  have t2 := product_any c d hc hd w
  have e1 := hi_lo a b
  have e2 := hi_lo c d
  have l1 := lo64_lt a b
  have l2 := lo64_lt c d
  unfold cmpI
  rw [← e1, ← e2]
  clear e1 e2
  generalize hi64 a b = h at *
  generalize lo64 a b = l at *
  generalize hi64 c d = h' at *
  generalize lo64 c d = l' at *
  have T1 := Lib.hid t1
  have T2 := Lib.hid t2
  clear t1 t2
  have s1 : h < h' ∨ h = h' ∧ l < l' ∨ h = h' ∧ l = l' ∨ h = h' ∧ l' < l ∨ h' < h := by omega
  rcases s1 with g | ⟨rfl, g⟩ | ⟨rfl, rfl⟩ | ⟨rfl, g⟩ | g
  · rw [if_pos (by omega)]
    have g1 : decide (h < h') = true := decide_eq_true (by omega)
    go_enter Try.func42, Try.ntmps42
    go_wp2_with fail
    refine T1.out.mono ?_
    rintro e w1 ⟨rfl, rfl⟩
    go_wp2_with fail
    refine T2.out.mono ?_
    rintro e w1 ⟨rfl, rfl⟩
    go_wp2_with fail
    go_ret
    exact ⟨rfl, rfl⟩
  · rw [if_pos (by omega)]
    have g1 : decide (l < l') = true := decide_eq_true (by omega)
    go_enter Try.func42, Try.ntmps42
    go_wp2_with fail
    refine T1.out.mono ?_
    rintro e w1 ⟨rfl, rfl⟩
    go_wp2_with fail
    refine T2.out.mono ?_
    rintro e w1 ⟨rfl, rfl⟩
    go_wp2_with fail
    go_ret
    exact ⟨rfl, rfl⟩
  · rw [if_neg (by omega), if_pos rfl]
    go_enter Try.func42, Try.ntmps42
    go_wp2_with fail
    refine T1.out.mono ?_
    rintro e w1 ⟨rfl, rfl⟩
    go_wp2_with fail
    refine T2.out.mono ?_
    rintro e w1 ⟨rfl, rfl⟩
    go_wp2_with fail
    go_ret
    exact ⟨rfl, rfl⟩
  · rw [if_neg (by omega), if_neg (by omega)]
    have g1 : decide (l < l') = false := decide_eq_false (by omega)
    have g2 : ((l : Int) == (l' : Int)) = false := by simp; omega
    go_enter Try.func42, Try.ntmps42
    go_wp2_with fail
    refine T1.out.mono ?_
    rintro e w1 ⟨rfl, rfl⟩
    go_wp2_with fail
    refine T2.out.mono ?_
    rintro e w1 ⟨rfl, rfl⟩
    go_wp2_with fail
    go_ret
    exact ⟨rfl, rfl⟩
  · rw [if_neg (by omega), if_neg (by omega)]
    have g1 : decide (h < h') = false := decide_eq_false (by omega)
    have g2 : ((h : Int) == (h' : Int)) = false := by simp; omega
    go_enter Try.func42, Try.ntmps42
    go_wp2_with fail
    refine T1.out.mono ?_
    rintro e w1 ⟨rfl, rfl⟩
    go_wp2_with fail
    refine T2.out.mono ?_
    rintro e w1 ⟨rfl, rfl⟩
    go_wp2_with fail
    go_ret
    exact ⟨rfl, rfl⟩

set_option maxHeartbeats 400000 in
theorem awake02 (w : World) : Calls Try.prog 36 #[] w fun e w' => e = .returned (.bool true) ∧ Below w.heap.size w w' := by
  have m1 := fun W => mulDiv_any 9223372036854775808 4 8 (by omega) (by omega) (by omega) W
  have m2 := fun W => up_any 1 1 2 (by omega) (by omega) (by omega) W
  have m3 := fun W => compare_any 1099511627776 1099511627776 1 1 (by omega) (by omega) (by omega) (by omega) W
  have a1 : mdQ 9223372036854775808 4 8 = 4611686018427387904 := by decide +kernel
  have a2 : mdR 9223372036854775808 4 8 = 0 := by decide +kernel
  have a3 : mdOk 9223372036854775808 4 8 = true := by decide +kernel
  have a4 : upV 1 1 2 = 1 := by decide +kernel
  have a5 : upOk 1 1 2 = true := by decide +kernel
  have a6 : cmpI 1099511627776 1099511627776 1 1 = 1 := by decide +kernel
  rw [a1, a2, a3] at m1
  rw [a4, a5] at m2
  rw [a6] at m3
  clear a1 a2 a3 a4 a5 a6
  have M1 := Lib.hid m1
  have M2 := Lib.hid m2
  have M3 := Lib.hid m3
  clear m1 m2 m3
  go_enter Try.func36, Try.ntmps36
  go_wp2_with fail
  refine (M1.out _).mono ?_
  rintro e w1 ⟨rfl, hb1⟩
  have hz1 := hb1.size
  go_wp2_with fail
  refine (M2.out _).mono ?_
  rintro e w2 ⟨rfl, hb2⟩
  have hz2 := hb2.size
  go_wp2_with fail
  refine (M3.out _).mono ?_
  rintro e w3 ⟨rfl, hb3⟩
  go_wp2_with fail
  go_ret
  exact ⟨rfl, hb1.trans ((hb2.mono hz1).trans (hb3.mono (by omega)))⟩

end Go.Proofs.Ytnpjacfefocjnaa
