/-
  THE LAWS OF LAYER 24 (bound), the walks: numbers, forms, tops, scales. For every input each returns true. No conditions.
-/
import Derived.Test.YtnpjacfefocjnaaBound4
import Derived.Test.YtnpjacfefocjnaaFrame
namespace Go.Proofs.Ytnpjacfefocjnaa
open Go.ChangeShapes Go.WideShapes Go.ChangeAt Go.RowKit

namespace boundNumbers
set_option maxRecDepth 100000 in
set_option maxHeartbeats 400000 in
theorem walk (a b c : Nat) (ha : a < 18446744073709551616) (hb : b < 18446744073709551616) (hc : c < 18446744073709551616) (w : World) :
    Calls Try.prog 15 #[.int .u64 a, .int .u64 b, .int .u64 c] w fun e w' => e = .returned (.bool true) ∧ Below w.heap.size w w' := by
  have m1 := fun W => add_b a b ha hb W
  have m2 := fun W => refAdd_b a b ha hb W
  have m3 := fun W => mul_any a b ha hb W
  have m4 := fun W => refMul_b a b ha hb W
  have m5 := fun W => scale_any a b c ha hb hc W
  have m6 := fun W => refScale_b a b c ha hb hc W
  generalize addS a b = x1 at *
  generalize mulS a b = x2 at *
  generalize scaleS a b c = x3 at *
  have M1 := Lib.hid m1
  have M2 := Lib.hid m2
  have M3 := Lib.hid m3
  have M4 := Lib.hid m4
  have M5 := Lib.hid m5
  have M6 := Lib.hid m6
  clear m1 m2 m3 m4 m5 m6
  go_enter Try.func15, Try.ntmps15
  go_wp2_with fail
  refine (shown24 _).mono ?_
  rintro e w1 ⟨rfl, hb1⟩
  have hz1 := hb1.size
  go_wp2_with fail
  refine (M1.out _).mono ?_
  rintro e w2 ⟨rfl, hb2⟩
  have hz2 := hb2.size
  go_wp2_with fail
  refine (M2.out _).mono ?_
  rintro e w3 ⟨rfl, hb3⟩
  have hz3 := hb3.size
  go_wp2_with fail
  refine (M3.out _).mono ?_
  rintro e w4 ⟨rfl, hb4⟩
  have hz4 := hb4.size
  go_wp2_with fail
  refine (M4.out _).mono ?_
  rintro e w5 ⟨rfl, hb5⟩
  have hz5 := hb5.size
  go_wp2_with fail
  refine (M5.out _).mono ?_
  rintro e w6 ⟨rfl, hb6⟩
  have hz6 := hb6.size
  go_wp2_with fail
  refine (M6.out _).mono ?_
  rintro e w7 ⟨rfl, hb7⟩
  have hz7 := hb7.size
  go_wp2_with fail
  go_ret
  have B1 := hb1
  have B2 := B1.trans (hb2.mono (by omega))
  have B3 := B2.trans (hb3.mono (by omega))
  have B4 := B3.trans (hb4.mono (by omega))
  have B5 := B4.trans (hb5.mono (by omega))
  have B6 := B5.trans (hb6.mono (by omega))
  have B7 := B6.trans (hb7.mono (by omega))
  exact ⟨rfl, B7⟩
end boundNumbers

namespace boundForms
set_option maxRecDepth 100000 in
set_option maxHeartbeats 1000000 in
theorem walk (n t g c m M : Nat) (hn : n < 18446744073709551616) (ht : t < 18446744073709551616) (hg : g < 18446744073709551616) (hc : c < 18446744073709551616) (hm : m < 18446744073709551616) (hM : M < 18446744073709551616) (w : World) :
    Calls Try.prog 24 #[.int .u64 n, .int .u64 t, .int .u64 g, .int .u64 c, .int .u64 m, .int .u64 M] w fun e w' => e = .returned (.bool true) ∧ Below w.heap.size w w' := by
  have m1 := fun W => step_any t m ht hm W
  have m2 := fun W => refStep_any t m ht hm W
  have m3 := fun W => quota_any c n t hc hn ht W
  have m4 := fun W => refQuota_any c n t hc hn ht W
  have m5 := fun W => lag_any t g c m ht hg hc hm W
  have m6 := fun W => refLag_any t g c m ht hg hc hm W
  have m7 := fun W => level_any n t g c m M hn ht hg hc hm hM W
  have m8 := fun W => refLevel_any n t g c m M hn ht hg hc hm hM W
  generalize stepS t m = x1 at *
  generalize quotaS c n t = x2 at *
  generalize lagS t g c m = x3 at *
  generalize levelS n t g c m M = x4 at *
  have M1 := Lib.hid m1
  have M2 := Lib.hid m2
  have M3 := Lib.hid m3
  have M4 := Lib.hid m4
  have M5 := Lib.hid m5
  have M6 := Lib.hid m6
  have M7 := Lib.hid m7
  have M8 := Lib.hid m8
  clear m1 m2 m3 m4 m5 m6 m7 m8
  go_enter Try.func24, Try.ntmps24
  go_wp2_with fail
  refine (shown24 _).mono ?_
  rintro e w1 ⟨rfl, hb1⟩
  have hz1 := hb1.size
  go_wp2_with fail
  refine (M1.out _).mono ?_
  rintro e w2 ⟨rfl, hb2⟩
  have hz2 := hb2.size
  go_wp2_with fail
  refine (M2.out _).mono ?_
  rintro e w3 ⟨rfl, hb3⟩
  have hz3 := hb3.size
  go_wp2_with fail
  refine (M3.out _).mono ?_
  rintro e w4 ⟨rfl, hb4⟩
  have hz4 := hb4.size
  go_wp2_with fail
  refine (M4.out _).mono ?_
  rintro e w5 ⟨rfl, hb5⟩
  have hz5 := hb5.size
  go_wp2_with fail
  refine (M5.out _).mono ?_
  rintro e w6 ⟨rfl, hb6⟩
  have hz6 := hb6.size
  go_wp2_with fail
  refine (M6.out _).mono ?_
  rintro e w7 ⟨rfl, hb7⟩
  have hz7 := hb7.size
  go_wp2_with fail
  refine (M7.out _).mono ?_
  rintro e w8 ⟨rfl, hb8⟩
  have hz8 := hb8.size
  go_wp2_with fail
  refine (M8.out _).mono ?_
  rintro e w9 ⟨rfl, hb9⟩
  have hz9 := hb9.size
  go_wp2_with fail
  go_ret
  have B1 := hb1
  have B2 := B1.trans (hb2.mono (by omega))
  have B3 := B2.trans (hb3.mono (by omega))
  have B4 := B3.trans (hb4.mono (by omega))
  have B5 := B4.trans (hb5.mono (by omega))
  have B6 := B5.trans (hb6.mono (by omega))
  have B7 := B6.trans (hb7.mono (by omega))
  have B8 := B7.trans (hb8.mono (by omega))
  have B9 := B8.trans (hb9.mono (by omega))
  exact ⟨rfl, B9⟩
end boundForms

namespace boundTops
theorem add_top (a : Nat) : addS 18446744073709551615 a = 18446744073709551615 := Nat.min_eq_right (by omega)
theorem mul_top (a : Nat) (h : 1 ≤ a) : mulS 18446744073709551615 a = 18446744073709551615 := by
  refine Nat.min_eq_right ?_
  have := Nat.mul_le_mul_left 18446744073709551615 h
  omega
theorem add_assoc (a b c : Nat) : addS (addS a b) c = addS a (addS b c) := by unfold addS sat; omega
theorem mul_zero (a : Nat) : mulS a 0 = 0 := by simp [mulS, sat]
theorem step_top (m : Nat) (hm : m ≤ 1) : stepS 18446744073709551615 m = 18446744073709551615 := by
  have : m = 0 ∨ m = 1 := by omega
  rcases this with rfl | rfl <;> decide +kernel
theorem lag_top (a b : Nat) : lagS 18446744073709551615 a b 1 = 18446744073709551615 := by
  unfold lagS
  rw [step_top 1 (by omega)]
  unfold sum3 addS mulS sat
  omega
theorem quota_top (a b : Nat) : quotaS 18446744073709551615 a b = 18446744073709551615 := add_top _

set_option maxRecDepth 100000 in
set_option maxHeartbeats 1000000 in
theorem walk (a b c : Nat) (ha : a < 18446744073709551616) (hb : b < 18446744073709551616) (hc : c < 18446744073709551616) (w : World) :
    Calls Try.prog 17 #[.int .u64 a, .int .u64 b, .int .u64 c] w fun e w' => e = .returned (.bool true) ∧ Below w.heap.size w w' := by
  obtain ⟨a1, ha1⟩ : ∃ x, x = max a 1 := ⟨_, rfl⟩
  have x1 : max (a : Int) 1 = (a1 : Int) := by omega
  have ha2 : a1 < 18446744073709551616 := by omega
  have m1 := fun W => add_b 18446744073709551615 a (by omega) ha W
  have m2 := fun W => mul_any 18446744073709551615 a1 (by omega) ha2 W
  have m3 := fun W => add_b a b ha hb W
  have m4 := fun W => add_b b a hb ha W
  have m5 := fun W => mul_any a b ha hb W
  have m6 := fun W => mul_any b a hb ha W
  have m7 := fun W => add_b a b ha hb W
  have m8 := fun W => add_b (addS a b) c (addS_lt _ _) hc W
  have m9 := fun W => add_b b c hb hc W
  have m10 := fun W => add_b a (addS b c) ha (addS_lt _ _) W
  have m11 := fun W => mul_any a 0 ha (by omega) W
  have m12 := fun W => lag_any 18446744073709551615 a b 1 (by omega) ha hb (by omega) W
  have m13 := fun W => quota_any 18446744073709551615 a b (by omega) ha hb W
  rw [add_top] at m1
  rw [mul_top _ (by omega)] at m2
  rw [addS_comm b a] at m4
  rw [mulS_comm b a] at m6
  rw [add_assoc] at m8
  rw [mul_zero] at m11
  rw [lag_top] at m12
  rw [quota_top] at m13
  generalize addS a (addS b c) = y1 at *
  generalize addS a b = y2 at *
  generalize addS b c = y3 at *
  generalize mulS a b = y4 at *
  clear ha1
  have M1 := Lib.hid m1
  have M2 := Lib.hid m2
  have M3 := Lib.hid m3
  have M4 := Lib.hid m4
  have M5 := Lib.hid m5
  have M6 := Lib.hid m6
  have M7 := Lib.hid m7
  have M8 := Lib.hid m8
  have M9 := Lib.hid m9
  have M10 := Lib.hid m10
  have M11 := Lib.hid m11
  have M12 := Lib.hid m12
  have M13 := Lib.hid m13
  clear m1 m2 m3 m4 m5 m6 m7 m8 m9 m10 m11 m12 m13
  go_enter Try.func17, Try.ntmps17
  go_wp2_with fail
  refine (shown24 _).mono ?_
  rintro e w1 ⟨rfl, hb1⟩
  have hz1 := hb1.size
  go_wp2_with fail
  refine (M1.out _).mono ?_
  rintro e w2 ⟨rfl, hb2⟩
  have hz2 := hb2.size
  go_wp2_with fail
  refine (M2.out _).mono ?_
  rintro e w3 ⟨rfl, hb3⟩
  have hz3 := hb3.size
  go_wp2_with fail
  refine (M3.out _).mono ?_
  rintro e w4 ⟨rfl, hb4⟩
  have hz4 := hb4.size
  go_wp2_with fail
  refine (M4.out _).mono ?_
  rintro e w5 ⟨rfl, hb5⟩
  have hz5 := hb5.size
  go_wp2_with fail
  refine (M5.out _).mono ?_
  rintro e w6 ⟨rfl, hb6⟩
  have hz6 := hb6.size
  go_wp2_with fail
  refine (M6.out _).mono ?_
  rintro e w7 ⟨rfl, hb7⟩
  have hz7 := hb7.size
  go_wp2_with fail
  refine (M7.out _).mono ?_
  rintro e w8 ⟨rfl, hb8⟩
  have hz8 := hb8.size
  go_wp2_with fail
  refine (M8.out _).mono ?_
  rintro e w9 ⟨rfl, hb9⟩
  have hz9 := hb9.size
  go_wp2_with fail
  refine (M9.out _).mono ?_
  rintro e w10 ⟨rfl, hb10⟩
  have hz10 := hb10.size
  go_wp2_with fail
  refine (M10.out _).mono ?_
  rintro e w11 ⟨rfl, hb11⟩
  have hz11 := hb11.size
  go_wp2_with fail
  refine (M11.out _).mono ?_
  rintro e w12 ⟨rfl, hb12⟩
  have hz12 := hb12.size
  go_wp2_with fail
  refine (M12.out _).mono ?_
  rintro e w13 ⟨rfl, hb13⟩
  have hz13 := hb13.size
  go_wp2_with fail
  refine (M13.out _).mono ?_
  rintro e w14 ⟨rfl, hb14⟩
  have hz14 := hb14.size
  go_wp2_with fail
  go_ret
  have B1 := hb1
  have B2 := B1.trans (hb2.mono (by omega))
  have B3 := B2.trans (hb3.mono (by omega))
  have B4 := B3.trans (hb4.mono (by omega))
  have B5 := B4.trans (hb5.mono (by omega))
  have B6 := B5.trans (hb6.mono (by omega))
  have B7 := B6.trans (hb7.mono (by omega))
  have B8 := B7.trans (hb8.mono (by omega))
  have B9 := B8.trans (hb9.mono (by omega))
  have B10 := B9.trans (hb10.mono (by omega))
  have B11 := B10.trans (hb11.mono (by omega))
  have B12 := B11.trans (hb12.mono (by omega))
  have B13 := B12.trans (hb13.mono (by omega))
  have B14 := B13.trans (hb14.mono (by omega))
  exact ⟨rfl, B14⟩
end boundTops

namespace boundScales
theorem up_of (n a b : Nat) (hb : 0 < b) (x : Nat) (hx : x = (n * a + b - 1) / b) : n * a ≤ x * b := by
  have e := Nat.div_add_mod (n * a + b - 1) b
  have hm := Nat.mod_lt (n * a + b - 1) hb
  rw [← hx, Nat.mul_comm b x] at e
  omega
theorem same (n a : Nat) (hn : n < 18446744073709551616) (ha : 0 < a) : scaleS n a a = n := by
  unfold scaleS
  rw [if_neg (by omega)]
  have : (n * a + a - 1) / a = n := by
    rw [show n * a + a - 1 = (a - 1) + a * n by rw [Nat.mul_comm]; omega, Nat.add_mul_div_left _ _ ha, Nat.div_eq_of_lt (by omega), Nat.zero_add]
  rw [this]
  exact Nat.min_eq_left (by omega)
theorem none (n b : Nat) (hb : 0 < b) : scaleS n 0 b = 0 := by
  unfold scaleS
  rw [if_neg (by omega), Nat.mul_zero, Nat.zero_add, Nat.div_eq_of_lt (by omega)]
  rfl
theorem back (n a b : Nat) (hn : n < 18446744073709551616) (ha : 0 < a) (hb : 0 < b) (h : scaleS n a b ≠ 18446744073709551615) : n ≤ scaleS (scaleS n a b) b a := by
  have e : scaleS n a b = sat ((n * a + b - 1) / b) := if_neg (by omega)
  have hx : scaleS n a b = (n * a + b - 1) / b := by
    rw [e] at h ⊢
    unfold sat at h ⊢
    generalize (n * a + b - 1) / b = z at *
    omega
  have h1 := up_of n a b hb _ hx
  generalize scaleS n a b = x at *
  have e2 : scaleS x b a = sat ((x * b + a - 1) / a) := if_neg (by omega)
  rw [e2]
  have : n ≤ (x * b + a - 1) / a := by
    rw [Nat.le_div_iff_mul_le ha]; omega
  unfold sat
  generalize (x * b + a - 1) / a = z at *
  omega

set_option maxRecDepth 100000 in
set_option maxHeartbeats 1000000 in
theorem walk (n a b : Nat) (hn : n < 18446744073709551616) (ha : a < 18446744073709551616) (hb : b < 18446744073709551616) (w : World) :
    Calls Try.prog 16 #[.int .u64 n, .int .u64 a, .int .u64 b] w fun e w' => e = .returned (.bool true) ∧ Below w.heap.size w w' := by
  obtain ⟨a1, ha1⟩ : ∃ x, x = max a 1 := ⟨_, rfl⟩
  have x1 : max (a : Int) 1 = (a1 : Int) := by omega
  have ha2 : a1 < 18446744073709551616 := by omega
  have ha3 : 0 < a1 := by omega
  obtain ⟨b1, hb1⟩ : ∃ x, x = max b 1 := ⟨_, rfl⟩
  have x2 : max (b : Int) 1 = (b1 : Int) := by omega
  have hb2 : b1 < 18446744073709551616 := by omega
  have hb3 : 0 < b1 := by omega
  have m1 := fun W => scale_any n a 0 hn ha (by omega) W
  have m2 := fun W => scale_any n 0 b1 hn (by omega) hb2 W
  have m3 := fun W => scale_any n a1 a1 hn ha2 ha2 W
  have m4 := fun W => scale_any n a1 b1 hn ha2 hb2 W
  have m5 := fun W => scale_any (scaleS n a1 b1) b1 a1 (scaleS_lt _ _ _) hb2 ha2 W
  rw [show scaleS n a 0 = 18446744073709551615 from if_pos rfl] at m1
  rw [none n b1 hb3] at m2
  rw [same n a1 hn ha3] at m3
  have bk := back n a1 b1 hn ha3 hb3
  have bl := scaleS_lt n a1 b1
  clear ha1 hb1
  generalize scaleS (scaleS n a1 b1) b1 a1 = y at *
  generalize scaleS n a1 b1 = x at *
  have M1 := Lib.hid m1
  have M2 := Lib.hid m2
  have M3 := Lib.hid m3
  have M4 := Lib.hid m4
  have M5 := Lib.hid m5
  clear m1 m2 m3 m4 m5
  by_cases hx : x = 18446744073709551615
  · subst hx
    clear bk
    go_enter Try.func16, Try.ntmps16
    go_wp2_with fail
    refine (shown24 _).mono ?_
    rintro e w1 ⟨rfl, hb1⟩
    have hz1 := hb1.size
    go_wp2_with fail
    refine (M1.out _).mono ?_
    rintro e w2 ⟨rfl, hb2⟩
    have hz2 := hb2.size
    go_wp2_with fail
    refine (M2.out _).mono ?_
    rintro e w3 ⟨rfl, hb3⟩
    have hz3 := hb3.size
    go_wp2_with fail
    refine (M3.out _).mono ?_
    rintro e w4 ⟨rfl, hb4⟩
    have hz4 := hb4.size
    go_wp2_with fail
    refine (M4.out _).mono ?_
    rintro e w5 ⟨rfl, hb5⟩
    have hz5 := hb5.size
    go_wp2_with fail
    go_ret
    have B1 := hb1
    have B2 := B1.trans (hb2.mono (by omega))
    have B3 := B2.trans (hb3.mono (by omega))
    have B4 := B3.trans (hb4.mono (by omega))
    have B5 := B4.trans (hb5.mono (by omega))
    exact ⟨rfl, B5⟩
  · have h1 : ((x : Int) == 18446744073709551615) = false := by simp; omega
    have h2 : decide (n ≤ y) = true := decide_eq_true (bk hx)
    clear bk hx
    go_enter Try.func16, Try.ntmps16
    go_wp2_with fail
    refine (shown24 _).mono ?_
    rintro e w1 ⟨rfl, hb1⟩
    have hz1 := hb1.size
    go_wp2_with fail
    refine (M1.out _).mono ?_
    rintro e w2 ⟨rfl, hb2⟩
    have hz2 := hb2.size
    go_wp2_with fail
    refine (M2.out _).mono ?_
    rintro e w3 ⟨rfl, hb3⟩
    have hz3 := hb3.size
    go_wp2_with fail
    refine (M3.out _).mono ?_
    rintro e w4 ⟨rfl, hb4⟩
    have hz4 := hb4.size
    go_wp2_with fail
    refine (M4.out _).mono ?_
    rintro e w5 ⟨rfl, hb5⟩
    have hz5 := hb5.size
    go_wp2_with fail
    refine (M5.out _).mono ?_
    rintro e w6 ⟨rfl, hb6⟩
    have hz6 := hb6.size
    go_wp2_with fail
    go_ret
    have B1 := hb1
    have B2 := B1.trans (hb2.mono (by omega))
    have B3 := B2.trans (hb3.mono (by omega))
    have B4 := B3.trans (hb4.mono (by omega))
    have B5 := B4.trans (hb5.mono (by omega))
    have B6 := B5.trans (hb6.mono (by omega))
    exact ⟨rfl, B6⟩
end boundScales

end Go.Proofs.Ytnpjacfefocjnaa
