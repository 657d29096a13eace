/-
  bound.Lag, Level, Wait and the document's; dolelaw24.shown.
-/
import Derived.Test.YtnpjacfefocjnaaBound3
namespace Go.Proofs.Ytnpjacfefocjnaa
open Go.RowKit

set_option maxHeartbeats 400000 in
theorem lag_any (t g c m : Nat) (ht : t < 18446744073709551616) (hg : g < 18446744073709551616) (hc : c < 18446744073709551616) (hm : m < 18446744073709551616) (w : World) :
    Calls Try.prog 54 #[.int .u64 t, .int .u64 g, .int .u64 c, .int .u64 m] w fun e w' => e = .returned (.int .u64 (lagS t g c m : Nat)) ∧ Below w.heap.size w w' := by
  have m1 := fun W => step_any t m ht hm W
  have m2 := fun b W c0 c1 c2 => sum_any c g (stepS t m) hc hg (stepS_lt _ _) b W c0 c1 c2
  have m3 := fun W => mul_any 2 (sum3 c g (stepS t m)) (by omega) (sum3_lt _ _ _) W
  have m4 := fun W => add_b (mulS 2 (sum3 c g (stepS t m))) 2 (mulS_lt _ _) (by omega) W
  change ∀ W : World, Calls _ _ _ W fun e w' => e = .returned (.int .u64 (lagS t g c m : Nat)) ∧ _ at m4
  generalize lagS t g c m = R at *
  generalize mulS 2 (sum3 c g (stepS t m)) = s3 at *
  generalize sum3 c g (stepS t m) = s2 at *
  generalize stepS t m = s1 at *
  have M1 := Lib.hid m1
  have M2 := Lib.hid m2
  have M3 := Lib.hid m3
  have M4 := Lib.hid m4
  clear m1 m2 m3 m4
  go_enter Try.func54, Try.ntmps54
  go_wp2_with fail
  refine (M1.out _).mono ?_
  rintro e w1 ⟨rfl, hb1⟩
  have hz1 := hb1.size
  go_wp2_with fail
  refine (M2.out _ _ (by simp [World.cell?_alloc_new]) (by simp [World.cell?_alloc_new]) (by simp [World.cell?_alloc_new])).mono ?_
  rintro e w2 ⟨rfl, rfl⟩
  go_wp2_with fail
  refine (M3.out _).mono ?_
  rintro e w3 ⟨rfl, hb3⟩
  have hz3 := hb3.size
  simp at hz3
  go_wp2_with fail
  refine (M4.out _).mono ?_
  rintro e w4 ⟨rfl, hb4⟩
  go_wp2_with fail
  go_ret
  exact ⟨rfl, ((hb1.alloc hz1 _).trans (hb3.mono (by simp; omega))).trans (hb4.mono (by omega))⟩

theorem half_lag (c g k : Nat) : addS 2 (addS (addS (addS g k) c) (addS (addS g k) c)) = addS (mulS 2 (sum3 c g k)) 2 := by
  unfold sum3 addS mulS sat; omega
theorem level_sum (c g k : Nat) : addS (addS c (addS g g)) (addS k k) = sum3 c (mulS 2 g) (mulS 2 k) := by
  unfold sum3 addS mulS sat; omega
theorem wait_sum (w m l : Nat) : addS (addS m l) w = sum3 w m l := by
  unfold sum3 addS sat; omega

set_option maxHeartbeats 400000 in
theorem refLag_any (t g c m : Nat) (ht : t < 18446744073709551616) (hg : g < 18446744073709551616) (hc : c < 18446744073709551616) (hm : m < 18446744073709551616) (w : World) :
    Calls Try.prog 67 #[.int .u64 t, .int .u64 g, .int .u64 c, .int .u64 m] w fun e w' => e = .returned (.int .u64 (lagS t g c m : Nat)) ∧ Below w.heap.size w w' := by
  have m1 := fun W => refStep_any t m ht hm W
  have m2 := fun W => refAdd_b g (stepS t m) hg (stepS_lt _ _) W
  have m3 := fun W => refAdd_b (addS g (stepS t m)) c (addS_lt _ _) hc W
  have m4 := fun W => refAdd_b (addS (addS g (stepS t m)) c) (addS (addS g (stepS t m)) c) (addS_lt _ _) (addS_lt _ _) W
  have m5 := fun W => refAdd_b 2 (addS (addS (addS g (stepS t m)) c) (addS (addS g (stepS t m)) c)) (by omega) (addS_lt _ _) W
  rw [half_lag] at m5
  change ∀ W : World, Calls _ _ _ W fun e w' => e = .returned (.int .u64 (lagS t g c m : Nat)) ∧ _ at m5
  generalize lagS t g c m = R at *
  generalize addS (addS (addS g (stepS t m)) c) (addS (addS g (stepS t m)) c) = s4 at *
  generalize addS (addS g (stepS t m)) c = s3 at *
  generalize addS g (stepS t m) = s2 at *
  generalize stepS t m = s1 at *
  have M1 := Lib.hid m1
  have M2 := Lib.hid m2
  have M3 := Lib.hid m3
  have M4 := Lib.hid m4
  have M5 := Lib.hid m5
  clear m1 m2 m3 m4 m5
  go_enter Try.func67, Try.ntmps67
  go_wp2_with fail
  refine (M1.out _).mono ?_
  rintro e w1 ⟨rfl, hb1⟩
  have hz1 := hb1.size
  go_wp2_with fail
  refine (M2.out _).mono ?_
  rintro e w2 ⟨rfl, hb2⟩
  have hz2 := hb2.size
  go_wp2_with fail
  refine (M3.out _).mono ?_
  rintro e w3 ⟨rfl, hb3⟩
  have hz3 := hb3.size
  go_wp2_with fail
  refine (M4.out _).mono ?_
  rintro e w4 ⟨rfl, hb4⟩
  have hz4 := hb4.size
  go_wp2_with fail
  refine (M5.out _).mono ?_
  rintro e w5 ⟨rfl, hb5⟩
  have hz5 := hb5.size
  go_wp2_with fail
  go_ret
  have B1 := hb1
  have B2 := B1.trans (hb2.mono (by omega))
  have B3 := B2.trans (hb3.mono (by omega))
  have B4 := B3.trans (hb4.mono (by omega))
  have B5 := B4.trans (hb5.mono (by omega))
  exact ⟨rfl, B5⟩

set_option maxHeartbeats 400000 in
theorem level_any (n t g c m M : Nat) (hn : n < 18446744073709551616) (ht : t < 18446744073709551616) (hg : g < 18446744073709551616) (hc : c < 18446744073709551616) (hm : m < 18446744073709551616) (hM : M < 18446744073709551616) (w : World) :
    Calls Try.prog 68 #[.int .u64 n, .int .u64 t, .int .u64 g, .int .u64 c, .int .u64 m, .int .u64 M] w fun e w' => e = .returned (.int .u64 (levelS n t g c m M : Nat)) ∧ Below w.heap.size w w' := by
  have m0 := fun W => mul_any 2 g (by omega) hg W
  have m1 := fun W => step_any t m ht hm W
  have m2 := fun W => mul_any 2 (stepS t m) (by omega) (stepS_lt _ _) W
  have m3 := fun b W c0 c1 c2 => sum_any c (mulS 2 g) (mulS 2 (stepS t m)) hc (mulS_lt _ _) (mulS_lt _ _) b W c0 c1 c2
  have m4 := fun W => scale_any (sum3 c (mulS 2 g) (mulS 2 (stepS t m))) M 1024 (sum3_lt _ _ _) hM (by omega) W
  have m5 := fun W => add_b t (scaleS (sum3 c (mulS 2 g) (mulS 2 (stepS t m))) M 1024) ht (scaleS_lt _ _ _) W
  have m6 := fun W => mul_any n (addS t (scaleS (sum3 c (mulS 2 g) (mulS 2 (stepS t m))) M 1024)) hn (addS_lt _ _) W
  change ∀ W : World, Calls _ _ _ W fun e w' => e = .returned (.int .u64 (levelS n t g c m M : Nat)) ∧ _ at m6
  generalize levelS n t g c m M = R at *
  generalize addS t (scaleS (sum3 c (mulS 2 g) (mulS 2 (stepS t m))) M 1024) = s5 at *
  generalize scaleS (sum3 c (mulS 2 g) (mulS 2 (stepS t m))) M 1024 = s4 at *
  generalize sum3 c (mulS 2 g) (mulS 2 (stepS t m)) = s3 at *
  generalize mulS 2 (stepS t m) = s2 at *
  generalize stepS t m = s1 at *
  generalize mulS 2 g = s0 at *
  have M0 := Lib.hid m0
  have M1 := Lib.hid m1
  have M2 := Lib.hid m2
  have M3 := Lib.hid m3
  have M4 := Lib.hid m4
  have M5 := Lib.hid m5
  have M6 := Lib.hid m6
  clear m0 m1 m2 m3 m4 m5 m6
  go_enter Try.func68, Try.ntmps68
  go_wp2_with fail
  refine (M0.out _).mono ?_
  rintro e w1 ⟨rfl, hb1⟩
  have hz1 := hb1.size
  go_wp2_with fail
  refine (M1.out _).mono ?_
  rintro e w2 ⟨rfl, hb2⟩
  have hz2 := hb2.size
  go_wp2_with fail
  refine (M2.out _).mono ?_
  rintro e w3 ⟨rfl, hb3⟩
  have hz3 := hb3.size
  go_wp2_with fail
  refine (M3.out _ _ (by simp [World.cell?_alloc_new]) (by simp [World.cell?_alloc_new]) (by simp [World.cell?_alloc_new])).mono ?_
  rintro e w4 ⟨rfl, rfl⟩
  go_wp2_with fail
  refine (M4.out _).mono ?_
  rintro e w5 ⟨rfl, hb5⟩
  have hz5 := hb5.size
  simp at hz5
  go_wp2_with fail
  refine (M5.out _).mono ?_
  rintro e w6 ⟨rfl, hb6⟩
  have hz6 := hb6.size
  go_wp2_with fail
  refine (M6.out _).mono ?_
  rintro e w7 ⟨rfl, hb7⟩
  go_wp2_with fail
  go_ret
  have B3 := hb1.trans ((hb2.mono hz1).trans (hb3.mono (by omega)))
  have B5 := (B3.alloc (by omega) _).trans (hb5.mono (by simp; omega))
  exact ⟨rfl, B5.trans ((hb6.mono (by omega)).trans (hb7.mono (by omega)))⟩

set_option maxHeartbeats 400000 in
theorem refLevel_any (n t g c m M : Nat) (hn : n < 18446744073709551616) (ht : t < 18446744073709551616) (hg : g < 18446744073709551616) (hc : c < 18446744073709551616) (hm : m < 18446744073709551616) (hM : M < 18446744073709551616) (w : World) :
    Calls Try.prog 69 #[.int .u64 n, .int .u64 t, .int .u64 g, .int .u64 c, .int .u64 m, .int .u64 M] w fun e w' => e = .returned (.int .u64 (levelS n t g c m M : Nat)) ∧ Below w.heap.size w w' := by
  have m1 := fun W => refStep_any t m ht hm W
  have m2 := fun W => refAdd_b g g hg hg W
  have m3 := fun W => refAdd_b c (addS g g) hc (addS_lt _ _) W
  have m4 := fun W => refAdd_b (stepS t m) (stepS t m) (stepS_lt _ _) (stepS_lt _ _) W
  have m5 := fun W => refAdd_b (addS c (addS g g)) (addS (stepS t m) (stepS t m)) (addS_lt _ _) (addS_lt _ _) W
  rw [level_sum] at m5
  have m6 := fun W => refScale_b (sum3 c (mulS 2 g) (mulS 2 (stepS t m))) M 1024 (sum3_lt _ _ _) hM (by omega) W
  have m7 := fun W => refAdd_b (scaleS (sum3 c (mulS 2 g) (mulS 2 (stepS t m))) M 1024) t (scaleS_lt _ _ _) ht W
  have m8 := fun W => refMul_b (addS (scaleS (sum3 c (mulS 2 g) (mulS 2 (stepS t m))) M 1024) t) n (addS_lt _ _) hn W
  rw [addS_comm _ t] at m7
  rw [addS_comm _ t, mulS_comm _ n] at m8
  change ∀ W : World, Calls _ _ _ W fun e w' => e = .returned (.int .u64 (levelS n t g c m M : Nat)) ∧ _ at m8
  generalize levelS n t g c m M = R at *
  generalize addS t (scaleS (sum3 c (mulS 2 g) (mulS 2 (stepS t m))) M 1024) = s7 at *
  generalize scaleS (sum3 c (mulS 2 g) (mulS 2 (stepS t m))) M 1024 = s6 at *
  generalize sum3 c (mulS 2 g) (mulS 2 (stepS t m)) = s5 at *
  generalize addS (stepS t m) (stepS t m) = s4 at *
  generalize stepS t m = s1 at *
  generalize addS c (addS g g) = s3 at *
  generalize addS g g = s2 at *
  have M1 := Lib.hid m1
  have M2 := Lib.hid m2
  have M3 := Lib.hid m3
  have M4 := Lib.hid m4
  have M5 := Lib.hid m5
  have M6 := Lib.hid m6
  have M7 := Lib.hid m7
  have M8 := Lib.hid m8
  clear m1 m2 m3 m4 m5 m6 m7 m8
  go_enter Try.func69, Try.ntmps69
  go_wp2_with fail
  refine (M1.out _).mono ?_
  rintro e w1 ⟨rfl, hb1⟩
  have hz1 := hb1.size
  go_wp2_with fail
  refine (M2.out _).mono ?_
  rintro e w2 ⟨rfl, hb2⟩
  have hz2 := hb2.size
  go_wp2_with fail
  refine (M3.out _).mono ?_
  rintro e w3 ⟨rfl, hb3⟩
  have hz3 := hb3.size
  go_wp2_with fail
  refine (M4.out _).mono ?_
  rintro e w4 ⟨rfl, hb4⟩
  have hz4 := hb4.size
  go_wp2_with fail
  refine (M5.out _).mono ?_
  rintro e w5 ⟨rfl, hb5⟩
  have hz5 := hb5.size
  go_wp2_with fail
  refine (M6.out _).mono ?_
  rintro e w6 ⟨rfl, hb6⟩
  have hz6 := hb6.size
  go_wp2_with fail
  refine (M7.out _).mono ?_
  rintro e w7 ⟨rfl, hb7⟩
  have hz7 := hb7.size
  go_wp2_with fail
  refine (M8.out _).mono ?_
  rintro e w8 ⟨rfl, hb8⟩
  have hz8 := hb8.size
  go_wp2_with fail
  go_ret
  have B1 := hb1
  have B2 := B1.trans (hb2.mono (by omega))
  have B3 := B2.trans (hb3.mono (by omega))
  have B4 := B3.trans (hb4.mono (by omega))
  have B5 := B4.trans (hb5.mono (by omega))
  have B6 := B5.trans (hb6.mono (by omega))
  have B7 := B6.trans (hb7.mono (by omega))
  have B8 := B7.trans (hb8.mono (by omega))
  exact ⟨rfl, B8⟩

set_option maxHeartbeats 400000 in
theorem shown24 (w : World) : Calls Try.prog 47 #[] w fun e w' => e = .returned (.bool true) ∧ Below w.heap.size w w' := by
  have m1 := fun W => step_any 1000 1024 (by omega) (by omega) W
  have m2 := fun W => lag_any 1000 10 5 1024 (by omega) (by omega) (by omega) (by omega) W
  have m3 := fun W => quota_any 100 4 10 (by omega) (by omega) (by omega) W
  have a1 : stepS 1000 1024 = 1001 := by decide +kernel
  have a2 : lagS 1000 10 5 1024 = 2034 := by decide +kernel
  have a3 : quotaS 100 4 10 = 140 := by decide +kernel
  rw [a1] at m1
  rw [a2] at m2
  rw [a3] at m3
  have M1 := Lib.hid m1
  have M2 := Lib.hid m2
  have M3 := Lib.hid m3
  clear m1 m2 m3 a1 a2 a3
  go_enter Try.func47, Try.ntmps47
  go_wp2_with fail
  refine (M1.out _).mono ?_
  rintro e w1 ⟨rfl, hb1⟩
  have hz1 := hb1.size
  go_wp2_with fail
  refine (M2.out _).mono ?_
  rintro e w2 ⟨rfl, hb2⟩
  have hz2 := hb2.size
  go_wp2_with fail
  refine (M3.out _).mono ?_
  rintro e w3 ⟨rfl, hb3⟩
  have hz3 := hb3.size
  go_wp2_with fail
  go_ret
  have B1 := hb1
  have B2 := B1.trans (hb2.mono (by omega))
  have B3 := B2.trans (hb3.mono (by omega))
  exact ⟨rfl, B3⟩

end Go.Proofs.Ytnpjacfefocjnaa
