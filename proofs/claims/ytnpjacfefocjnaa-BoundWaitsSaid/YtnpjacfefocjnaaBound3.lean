/-
  bound.Step, Quota, sum, Lag, Level and the document's.
-/
import Derived.Test.YtnpjacfefocjnaaBound2
namespace Go.Proofs.Ytnpjacfefocjnaa
open Go.RowKit

def stepS (tick minw : Nat) : Nat := addS (scaleS tick 1024 minw) 1
def quotaS (q n t : Nat) : Nat := addS q (mulS n t)
def sum3 (x y z : Nat) : Nat := addS (addS (addS 0 x) y) z
def lagS (tick gran credit minw : Nat) : Nat := addS (mulS 2 (sum3 credit gran (stepS tick minw))) 2
def levelS (n tick gran credit minw maxw : Nat) : Nat := mulS n (addS tick (scaleS (sum3 credit (mulS 2 gran) (mulS 2 (stepS tick minw))) maxw 1024))

theorem stepS_lt (a b : Nat) : stepS a b < 18446744073709551616 := sat_lt _
theorem quotaS_lt (a b c : Nat) : quotaS a b c < 18446744073709551616 := sat_lt _
theorem sum3_lt (a b c : Nat) : sum3 a b c < 18446744073709551616 := sat_lt _
theorem lagS_lt (a b c d : Nat) : lagS a b c d < 18446744073709551616 := sat_lt _
theorem levelS_lt (a b c d e f : Nat) : levelS a b c d e f < 18446744073709551616 := sat_lt _

theorem refAdd_b (a b : Nat) (ha : a < 18446744073709551616) (hb : b < 18446744073709551616) (w : World) :
    Calls Try.prog 49 #[.int .u64 a, .int .u64 b] w fun e w' => e = .returned (.int .u64 (addS a b : Nat)) ∧ Below w.heap.size w w' := (refAdd_any a b ha hb w).mono fun _ _ ⟨h, h2⟩ => ⟨h, h2 ▸ Below.refl _ _⟩
theorem add_b (a b : Nat) (ha : a < 18446744073709551616) (hb : b < 18446744073709551616) (w : World) :
    Calls Try.prog 48 #[.int .u64 a, .int .u64 b] w fun e w' => e = .returned (.int .u64 (addS a b : Nat)) ∧ Below w.heap.size w w' := (add_any a b ha hb w).mono fun _ _ ⟨h, h2⟩ => ⟨h, h2 ▸ Below.refl _ _⟩
theorem refMul_b (a b : Nat) (ha : a < 18446744073709551616) (hb : b < 18446744073709551616) (w : World) :
    Calls Try.prog 51 #[.int .u64 a, .int .u64 b] w fun e w' => e = .returned (.int .u64 (mulS a b : Nat)) ∧ Below w.heap.size w w' := (refMul_any a b ha hb w).mono fun _ _ ⟨h, h2⟩ => ⟨h, h2 ▸ Below.refl _ _⟩
theorem refScale_b (n a b : Nat) (hn : n < 18446744073709551616) (ha : a < 18446744073709551616) (hb : b < 18446744073709551616) (w : World) :
    Calls Try.prog 53 #[.int .u64 n, .int .u64 a, .int .u64 b] w fun e w' => e = .returned (.int .u64 (scaleS n a b : Nat)) ∧ Below w.heap.size w w' := (refScale_any n a b hn ha hb w).mono fun _ _ ⟨h, h2⟩ => ⟨h, h2 ▸ Below.refl _ _⟩

set_option maxHeartbeats 400000 in
theorem step_any (t m : Nat) (ht : t < 18446744073709551616) (hm : m < 18446744073709551616) (w : World) :
    Calls Try.prog 64 #[.int .u64 t, .int .u64 m] w fun e w' => e = .returned (.int .u64 (stepS t m : Nat)) ∧ Below w.heap.size w w' := by
  have m1 := fun W => scale_any t 1024 m ht (by omega) hm W
  have m2 := fun W => add_b (scaleS t 1024 m) 1 (scaleS_lt _ _ _) (by omega) W
  change ∀ W : World, Calls _ _ _ W fun e w' => e = .returned (.int .u64 (stepS t m : Nat)) ∧ _ at m2
  generalize stepS t m = R at *
  generalize scaleS t 1024 m = s at *
  have M1 := Lib.hid m1
  have M2 := Lib.hid m2
  clear m1 m2
  go_enter Try.func64, Try.ntmps64
  go_wp2_with fail
  refine (M1.out _).mono ?_
  rintro e w1 ⟨rfl, hb1⟩
  have hz1 := hb1.size
  go_wp2_with fail
  refine (M2.out _).mono ?_
  rintro e w2 ⟨rfl, hb2⟩
  have hz2 := hb2.size
  go_wp2_with fail
  go_ret
  have B1 := hb1
  have B2 := B1.trans (hb2.mono (by omega))
  exact ⟨rfl, B2⟩

set_option maxHeartbeats 400000 in
theorem refStep_any (t m : Nat) (ht : t < 18446744073709551616) (hm : m < 18446744073709551616) (w : World) :
    Calls Try.prog 65 #[.int .u64 t, .int .u64 m] w fun e w' => e = .returned (.int .u64 (stepS t m : Nat)) ∧ Below w.heap.size w w' := by
  have m1 := fun W => refScale_b t 1024 m ht (by omega) hm W
  have m2 := fun W => refAdd_b (scaleS t 1024 m) 1 (scaleS_lt _ _ _) (by omega) W
  change ∀ W : World, Calls _ _ _ W fun e w' => e = .returned (.int .u64 (stepS t m : Nat)) ∧ _ at m2
  generalize stepS t m = R at *
  generalize scaleS t 1024 m = s at *
  have M1 := Lib.hid m1
  have M2 := Lib.hid m2
  clear m1 m2
  go_enter Try.func65, Try.ntmps65
  go_wp2_with fail
  refine (M1.out _).mono ?_
  rintro e w1 ⟨rfl, hb1⟩
  have hz1 := hb1.size
  go_wp2_with fail
  refine (M2.out _).mono ?_
  rintro e w2 ⟨rfl, hb2⟩
  have hz2 := hb2.size
  go_wp2_with fail
  go_ret
  have B1 := hb1
  have B2 := B1.trans (hb2.mono (by omega))
  exact ⟨rfl, B2⟩

set_option maxHeartbeats 400000 in
theorem quota_any (q n t : Nat) (hq : q < 18446744073709551616) (hn : n < 18446744073709551616) (ht : t < 18446744073709551616) (w : World) :
    Calls Try.prog 55 #[.int .u64 q, .int .u64 n, .int .u64 t] w fun e w' => e = .returned (.int .u64 (quotaS q n t : Nat)) ∧ Below w.heap.size w w' := by
  have m1 := fun W => mul_any n t hn ht W
  have m2 := fun W => add_b q (mulS n t) hq (mulS_lt _ _) W
  change ∀ W : World, Calls _ _ _ W fun e w' => e = .returned (.int .u64 (quotaS q n t : Nat)) ∧ _ at m2
  generalize quotaS q n t = R at *
  generalize mulS n t = s at *
  have M1 := Lib.hid m1
  have M2 := Lib.hid m2
  clear m1 m2
  go_enter Try.func55, Try.ntmps55
  go_wp2_with fail
  refine (M1.out _).mono ?_
  rintro e w1 ⟨rfl, hb1⟩
  have hz1 := hb1.size
  go_wp2_with fail
  refine (M2.out _).mono ?_
  rintro e w2 ⟨rfl, hb2⟩
  have hz2 := hb2.size
  go_wp2_with fail
  go_ret
  have B1 := hb1
  have B2 := B1.trans (hb2.mono (by omega))
  exact ⟨rfl, B2⟩

theorem addS_comm (a b : Nat) : addS a b = addS b a := by unfold addS; rw [Nat.add_comm]
theorem mulS_comm (a b : Nat) : mulS a b = mulS b a := by unfold mulS; rw [Nat.mul_comm]

set_option maxHeartbeats 400000 in
theorem refQuota_any (q n t : Nat) (hq : q < 18446744073709551616) (hn : n < 18446744073709551616) (ht : t < 18446744073709551616) (w : World) :
    Calls Try.prog 66 #[.int .u64 q, .int .u64 n, .int .u64 t] w fun e w' => e = .returned (.int .u64 (quotaS q n t : Nat)) ∧ Below w.heap.size w w' := by
  have m1 := fun W => refMul_b n t hn ht W
  have m2 := fun W => refAdd_b (mulS n t) q (mulS_lt _ _) hq W
  rw [addS_comm] at m2
  change ∀ W : World, Calls _ _ _ W fun e w' => e = .returned (.int .u64 (quotaS q n t : Nat)) ∧ _ at m2
  generalize quotaS q n t = R at *
  generalize mulS n t = s at *
  have M1 := Lib.hid m1
  have M2 := Lib.hid m2
  clear m1 m2
  go_enter Try.func66, Try.ntmps66
  go_wp2_with fail
  refine (M1.out _).mono ?_
  rintro e w1 ⟨rfl, hb1⟩
  have hz1 := hb1.size
  go_wp2_with fail
  refine (M2.out _).mono ?_
  rintro e w2 ⟨rfl, hb2⟩
  have hz2 := hb2.size
  go_wp2_with fail
  go_ret
  have B1 := hb1
  have B2 := B1.trans (hb2.mono (by omega))
  exact ⟨rfl, B2⟩

set_option maxHeartbeats 400000 in
theorem sum_any (x y z : Nat) (hx : x < 18446744073709551616) (hy : y < 18446744073709551616) (hz : z < 18446744073709551616) (b : Nat) (w : World)
    (c0 : w.cell? ⟨b, 0, none⟩ = some (.int .u64 x)) (c1 : w.cell? ⟨b, 1, none⟩ = some (.int .u64 y)) (c2 : w.cell? ⟨b, 2, none⟩ = some (.int .u64 z)) :
    Calls Try.prog 99 #[.slice (some ⟨b, 0, none⟩) 3 3] w fun e w' => e = .returned (.int .u64 (sum3 x y z : Nat)) ∧ w = w' := by
  have m1 := fun W => add_any 0 x (by omega) hx W
  have m2 := fun W => add_any (addS 0 x) y (addS_lt _ _) hy W
  have m3 := fun W => add_any (addS (addS 0 x) y) z (addS_lt _ _) hz W
  change ∀ W : World, Calls _ _ _ W fun e w' => e = .returned (.int .u64 (sum3 x y z : Nat)) ∧ _ at m3
  generalize sum3 x y z = R at *
  generalize addS (addS 0 x) y = s2 at *
  generalize addS 0 x = s1 at *
  have M1 := Lib.hid m1
  have M2 := Lib.hid m2
  have M3 := Lib.hid m3
  clear m1 m2 m3
  go_enter Try.func99, Try.ntmps99
  go_wp2_with fail
  go_loop [3, 5, 8] (fun s3 _ s8 => (s8 = .int .i64 0 ∧ s3 = .int .u64 0) ∨ (s8 = .int .i64 1 ∧ s3 = .int .u64 s1) ∨ (s8 = .int .i64 2 ∧ s3 = .int .u64 s2) ∨ (s8 = .int .i64 3 ∧ s3 = .int .u64 R)) (fun _ _ s8 => 3 - (intOf s8).toNat)
  case atStart => exact .inl ⟨rfl, rfl⟩
  case round =>
    rcases hrel with ⟨rfl, rfl⟩ | ⟨rfl, rfl⟩ | ⟨rfl, rfl⟩ | ⟨rfl, rfl⟩
    · go_wp2_with fail
      refine (M1.out _).mono ?_
      rintro e w1 ⟨rfl, rfl⟩
      go_wp2_with fail
      go_round
      case rel => exact .inr (.inl ⟨rfl, rfl⟩)
      case measure => simp [intOf]
    · go_wp2_with fail
      refine (M2.out _).mono ?_
      rintro e w1 ⟨rfl, rfl⟩
      go_wp2_with fail
      go_round
      case rel => exact .inr (.inr (.inl ⟨rfl, rfl⟩))
      case measure => simp [intOf]
    · go_wp2_with fail
      refine (M3.out _).mono ?_
      rintro e w1 ⟨rfl, rfl⟩
      go_wp2_with fail
      go_round
      case rel => exact .inr (.inr (.inr ⟨rfl, rfl⟩))
      case measure => simp [intOf]
    · go_wp2_with fail
      go_ret
      exact ⟨rfl, rfl⟩

end Go.Proofs.Ytnpjacfefocjnaa
