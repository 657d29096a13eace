/-
  doleref24.Scale; bound.Step, Quota, sum, Lag, Level and the document's.
-/
import Derived.Test.YtnpjacfefocjnaaDiv11
namespace Go.Proofs.Ytnpjacfefocjnaa
open Go.RowKit

set_option maxHeartbeats 400000 in
theorem refScale_any (n a b : Nat) (hn : n < 18446744073709551616) (ha : a < 18446744073709551616) (hb : b < 18446744073709551616) (w : World) :
    Calls Try.prog 53 #[.int .u64 n, .int .u64 a, .int .u64 b] w fun e w' => e = .returned (.int .u64 (scaleS n a b : Nat)) ∧ w = w' := by
  rcases Nat.eq_zero_or_pos b with rfl | hb0
  · have e : scaleS n a 0 = 18446744073709551615 := if_pos rfl
    rw [e]
    clear e
    go_enter Try.func53, Try.ntmps53
    go_wp2_with fail
    go_ret
    exact ⟨rfl, rfl⟩
  · have b0 : ((b : Int) == 0) = false := by simp; omega
    have u := div11_any n a b hn ha hb hb0 w
    have bq := mdQ_lt n a b
    have es := up_scale n a b hb0
    unfold upOk upV at es
    have key : mdOk n a b = true → n * a = mdQ n a b * b + mdR n a b ∧ mdR n a b < b := by
      intro h
      have hok : n * a < b * 18446744073709551616 := of_decide_eq_true h
      have eq : mdQ n a b = n * a / b := if_pos hok
      have er : mdR n a b = n * a % b := if_pos hok
      rw [eq, er, Nat.mul_comm (n * a / b)]
      exact ⟨(Nat.div_add_mod _ _).symm, Nat.mod_lt _ hb0⟩
    have mm : IntKind.u64.wrap ((n : Int) * (a : Int)) = ((n * a % 18446744073709551616 : Nat) : Int) := by rw [mulN, Mul64.wrapM]
    generalize mdQ n a b = q at *
    generalize mdR n a b = r at *
    generalize mdOk n a b = o at *
    generalize scaleS n a b = S at *
    cases o
    · have hS : S = 18446744073709551615 := by simpa using es
      subst hS
      have U := Lib.hid u
      clear u es key mm
      go_enter Try.func53, Try.ntmps53
      go_wp2_with fail
      refine U.out.mono ?_
      rintro e w1 ⟨rfl, rfl⟩
      go_wp2_with fail
      go_ret
      exact ⟨rfl, rfl⟩
    · obtain ⟨k1, k2⟩ := key rfl
      have qq : IntKind.u64.wrap ((q : Int) * (b : Int)) = ((q * b % 18446744073709551616 : Nat) : Int) := by rw [mulN, Mul64.wrapM]
      rw [k1] at mm
      rcases Nat.eq_zero_or_pos r with rfl | hr
      · have hS : S = q := by have := es; simp at this; omega
        subst hS
        rw [Nat.add_zero] at mm
        have U := Lib.hid u
        clear u es key k1
        generalize S * b % 18446744073709551616 = z at *
        go_enter Try.func53, Try.ntmps53
        go_wp2_with fail
        refine U.out.mono ?_
        rintro e w1 ⟨rfl, rfl⟩
        go_wp2_with fail
        go_ret
        exact ⟨rfl, rfl⟩
      · have hne : (((q * b % 18446744073709551616 : Nat) : Int) == (((q * b + r) % 18446744073709551616 : Nat) : Int)) = false := by
          simp only [beq_eq_false_iff_ne, ne_eq, Int.natCast_inj]
          generalize q * b = z at *
          omega
        have hS : S = addS q 1 := by
          have hr1 : r ≠ 0 := by omega
          simp only [hr1, if_true, if_false, Bool.true_and, decide_false, Bool.false_or] at es
          unfold addS sat
          by_cases hq : q < 18446744073709551615
          · rw [if_pos hq, decide_eq_true hq] at es
            rcases es with ⟨_, h⟩ | ⟨h, _⟩
            · rw [← h]; exact (Nat.min_eq_left (by omega)).symm
            · cases h
          · rw [if_neg hq, decide_eq_false hq] at es
            rcases es with ⟨h, _⟩ | ⟨_, h⟩
            · cases h
            · rw [h]; exact (Nat.min_eq_right (by omega)).symm
        subst hS
        have ad := refAdd_any q 1 bq (by omega) w
        generalize addS q 1 = S at *
        have U := Lib.hid u
        have AD := Lib.hid ad
        clear u es key k1 ad
        generalize (q * b + r) % 18446744073709551616 = z1 at *
        generalize q * b % 18446744073709551616 = z at *
        go_enter Try.func53, Try.ntmps53
        go_wp2_with fail
        refine U.out.mono ?_
        rintro e w1 ⟨rfl, rfl⟩
        go_wp2_with fail
        refine AD.out.mono ?_
        rintro e w1 ⟨rfl, rfl⟩
        go_wp2_with fail
        go_ret
        exact ⟨rfl, rfl⟩

end Go.Proofs.Ytnpjacfefocjnaa
