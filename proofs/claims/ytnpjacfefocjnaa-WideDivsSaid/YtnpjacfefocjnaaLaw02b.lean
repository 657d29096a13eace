/-
  THE LAWS OF LAYER 2 (wide), the second part: for every input each returns true, and its input reads as it did. No conditions.
-/
import Derived.Test.YtnpjacfefocjnaaLaw02
namespace Go.Proofs.Ytnpjacfefocjnaa
open Go.ChangeShapes Go.WideShapes Go.ChangeAt Go.RowKit

namespace wideUps
set_option maxHeartbeats 400000 in
theorem walk (a b c : Nat) (ha : a < 18446744073709551616) (hb : b < 18446744073709551616) (hc : c < 18446744073709551616) (w : World) :
    Calls Try.prog 5 #[.int .u64 a, .int .u64 b, .int .u64 c] w fun e w' => e = .returned (.bool true) ∧ Below w.heap.size w w' := by
  have m1 := fun W => mulDiv_any a b c ha hb hc W
  have m2 := fun W => up_any a b c ha hb hc W
  have bq := mdQ_lt a b c
  have br := mdR_lt a b c hc
  have key : mdOk a b c = true → a * b = mdQ a b c * c + mdR a b c ∧ mdR a b c < c := by
    intro h
    have hok : a * b < c * 18446744073709551616 := of_decide_eq_true h
    have hc0 : 0 < c := by rcases Nat.eq_zero_or_pos c with rfl | h <;> omega
    have eq : mdQ a b c = a * b / c := if_pos hok
    have er : mdR a b c = a * b % c := if_pos hok
    rw [eq, er, Nat.mul_comm (a * b / c)]
    exact ⟨(Nat.div_add_mod _ _).symm, Nat.mod_lt _ hc0⟩
  unfold upV upOk at m2
  have cm := fun n hn W => compare_any n c a b hn hc ha hb W
  generalize mdQ a b c = Q at *
  generalize mdR a b c = R at *
  generalize mdOk a b c = O at *
  cases O
  · simp only [Bool.false_eq_true, if_false, Bool.false_and] at m2
    have M1 := Lib.hid m1
    have M2 := Lib.hid m2
    clear m1 m2 cm key
    go_enter Try.func5, Try.ntmps5
    go_wp2_with fail
    refine (awake02 _).mono ?_
    rintro e w1 ⟨rfl, hb1⟩
    have hz1 := hb1.size
    go_wp2_with fail
    refine (M1.out _).mono ?_
    rintro e w2 ⟨rfl, hb2⟩
    have hz2 := hb2.size
    go_wp2_with fail
    refine (M2.out _).mono ?_
    rintro e w3 ⟨rfl, hb3⟩
    go_wp2_with fail
    go_ret
    exact ⟨rfl, hb1.trans ((hb2.mono hz1).trans (hb3.mono (by omega)))⟩
  · obtain ⟨k1, k2⟩ := key rfl
    clear key
    simp only [if_true, Bool.true_and] at m2
    rcases Nat.eq_zero_or_pos R with rfl | hR
    · simp only [if_true, decide_true, Bool.true_or] at m2
      have cm1 := cm Q bq
      rw [cmp_eq (by omega)] at cm1
      have M1 := Lib.hid m1
      have M2 := Lib.hid m2
      have CM := Lib.hid cm1
      clear m1 m2 cm cm1 k1
      go_enter Try.func5, Try.ntmps5
      go_wp2_with fail
      refine (awake02 _).mono ?_
      rintro e w1 ⟨rfl, hb1⟩
      have hz1 := hb1.size
      go_wp2_with fail
      refine (M1.out _).mono ?_
      rintro e w2 ⟨rfl, hb2⟩
      have hz2 := hb2.size
      go_wp2_with fail
      refine (M2.out _).mono ?_
      rintro e w3 ⟨rfl, hb3⟩
      have hz3 := hb3.size
      go_wp2_with fail
      refine (CM.out _).mono ?_
      rintro e w4 ⟨rfl, hb4⟩
      go_wp2_with fail
      go_ret
      exact ⟨rfl, hb1.trans ((hb2.mono hz1).trans ((hb3.mono (by omega)).trans (hb4.mono (by omega))))⟩
    · have hR1 : R ≠ 0 := by omega
      have hR2 : decide (0 < R) = true := decide_eq_true hR
      have hR3 : decide ((0 : Int) < (R : Int)) = true := decide_eq_true (by omega)
      by_cases hq : Q < 18446744073709551615
      · simp only [hR1, hq, if_true, if_false, decide_true, decide_false, Bool.or_true] at m2
        have hq2 : IntKind.u64.wrap ((Q : Int) + 1) = ((Q + 1 : Nat) : Int) := by rw [IntKind.wrap_u64]; omega
        have hq3 : ((Q : Int) == 18446744073709551615) = false := by simp; omega
        have cm1 := cm (Q + 1) (by omega)
        rw [cmp_gt (by rw [k1, Nat.add_mul]; omega)] at cm1
        have M1 := Lib.hid m1
        have M2 := Lib.hid m2
        have CM := Lib.hid cm1
        clear m1 m2 cm cm1 k1
        generalize Q + 1 = Q1 at *
        go_enter Try.func5, Try.ntmps5
        go_wp2_with fail
        refine (awake02 _).mono ?_
        rintro e w1 ⟨rfl, hb1⟩
        have hz1 := hb1.size
        go_wp2_with fail
        refine (M1.out _).mono ?_
        rintro e w2 ⟨rfl, hb2⟩
        have hz2 := hb2.size
        go_wp2_with fail
        refine (M2.out _).mono ?_
        rintro e w3 ⟨rfl, hb3⟩
        have hz3 := hb3.size
        go_wp2_with fail
        refine (CM.out _).mono ?_
        rintro e w4 ⟨rfl, hb4⟩
        go_wp2_with fail
        go_ret
        exact ⟨rfl, hb1.trans ((hb2.mono hz1).trans ((hb3.mono (by omega)).trans (hb4.mono (by omega))))⟩
      · obtain rfl : Q = 18446744073709551615 := by omega
        simp only [hR1, Nat.lt_irrefl, if_false, decide_false, Bool.or_false] at m2
        have M1 := Lib.hid m1
        have M2 := Lib.hid m2
        clear m1 m2 cm k1 hq
        go_enter Try.func5, Try.ntmps5
        go_wp2_with fail
        refine (awake02 _).mono ?_
        rintro e w1 ⟨rfl, hb1⟩
        have hz1 := hb1.size
        go_wp2_with fail
        refine (M1.out _).mono ?_
        rintro e w2 ⟨rfl, hb2⟩
        have hz2 := hb2.size
        go_wp2_with fail
        refine (M2.out _).mono ?_
        rintro e w3 ⟨rfl, hb3⟩
        go_wp2_with fail
        go_ret
        exact ⟨rfl, hb1.trans ((hb2.mono hz1).trans (hb3.mono (by omega)))⟩
end wideUps

end Go.Proofs.Ytnpjacfefocjnaa
