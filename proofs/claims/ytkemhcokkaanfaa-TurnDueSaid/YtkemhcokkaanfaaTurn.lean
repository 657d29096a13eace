/-
  percpu.on, Slice, New, rest, serve: what they do. doleref21.more, Slice.
-/
import Derived.Test.YtkemhcokkaanfaaHeap
import Derived.Test.YtkemhcokkaanfaaBound
namespace Go.Proofs.Ytkemhcokkaanfaa
open Go.RowKit

/-- a time that goes on -/
theorem on_any (a b : Nat) (ha : a < 18446744073709551616) (hb : b < 18446744073709551616) (w : World) :
    Calls Try.prog 119 #[.int .u64 a, .int .u64 b] w fun e w' => e = .returned (.int .u64 (sat (a + b) : Nat)) ∧ w = w' := by
  by_cases h : a + b < 18446744073709551616
  · have e : sat (a + b) = a + b := Nat.min_eq_left (by omega)
    have E := Lib.hid e
    clear e
    have t1 : decide (a + b < a) = false := decide_eq_false (by omega)
    have t2 : decide ((a : Int) + (b : Int) < (a : Int)) = false := decide_eq_false (by omega)
    go_enter Try.func119, Try.ntmps119
    go_wp2_with fail
    go_ret
    exact ⟨by rw [E.out]; rfl, rfl⟩
  · have e : sat (a + b) = 18446744073709551615 := Nat.min_eq_right (by omega)
    have E := Lib.hid e
    clear e
    obtain ⟨r, hr⟩ : ∃ r, r = a + b - 18446744073709551616 := ⟨_, rfl⟩
    have t0 : IntKind.u64.wrap ((a : Int) + (b : Int)) = (r : Int) := by rw [IntKind.wrap_u64]; omega
    have t1 : decide (r < a) = true := decide_eq_true (by omega)
    have t2 : decide ((r : Int) < (a : Int)) = true := decide_eq_true (by omega)
    clear hr
    go_enter Try.func119, Try.ntmps119
    go_wp2_with fail
    go_ret
    exact ⟨by rw [E.out]; rfl, rfl⟩

/-- how long one of weight x beside a load is served at a time -/
def sliceN (lat x ld : Nat) : Nat := if ld ≤ x then lat else max (lat * x / ld) 1

theorem slice_md (lat x ld : Nat) (hl : lat < 18446744073709551616) (h : x < ld) : mdOk lat x ld = true ∧ mdQ lat x ld = lat * x / ld ∧ lat * x / ld ≤ lat := by
  have h1 : lat * x ≤ lat * ld := Nat.mul_le_mul_left _ (by omega)
  have h2 : lat * ld < ld * 18446744073709551616 := by
    rw [Nat.mul_comm]
    exact Nat.mul_lt_mul_of_pos_left hl (by omega)
  have h3 : lat * x < ld * 18446744073709551616 := by omega
  refine ⟨decide_eq_true h3, if_pos h3, ?_⟩
  exact Nat.div_le_of_le_mul (by rw [Nat.mul_comm ld lat]; exact h1)

theorem slice_lt (lat x ld : Nat) (hl : lat < 18446744073709551616) : sliceN lat x ld < 18446744073709551616 := by
  unfold sliceN
  split
  · exact hl
  · have := (slice_md lat x ld hl (by omega)).2.2
    omega

set_option maxRecDepth 100000 in
theorem slice_any (lat x ld : Nat) (hl : lat < 18446744073709551616) (hx : x < 18446744073709551616) (hd : ld < 18446744073709551616) (w : World) :
    Calls Try.prog 25 #[.int .u64 lat, .int .u64 x, .int .u64 ld] w fun e w' => e = .returned (.int .u64 (sliceN lat x ld : Nat)) ∧ Below w.heap.size w w' := by
  by_cases h : ld ≤ x
  · have e : sliceN lat x ld = lat := if_pos h
    have E := Lib.hid e
    clear e
    have t1 : decide (ld ≤ x) = true := decide_eq_true h
    have t2 : decide ((ld : Int) ≤ (x : Int)) = true := decide_eq_true (by omega)
    go_enter Try.func25, Try.ntmps25
    go_wp2_with fail
    go_ret
    exact ⟨by rw [E.out]; rfl, Below.refl _ _⟩
  · obtain ⟨o1, o2, o3⟩ := slice_md lat x ld hl (by omega)
    have m1 := fun W => mulDiv_any lat x ld hl hx hd W
    rw [o1, o2] at m1
    have e : sliceN lat x ld = max (lat * x / ld) 1 := if_neg h
    generalize mdR lat x ld = r at *
    generalize lat * x / ld = q at *
    obtain ⟨y, hy⟩ : ∃ y, y = max q 1 := ⟨_, rfl⟩
    have e2 : max (q : Int) 1 = (y : Int) := by omega
    rw [← hy] at e
    have E := Lib.hid e
    have M1 := Lib.hid m1
    have t1 : decide (ld ≤ x) = false := decide_eq_false h
    have t2 : decide ((ld : Int) ≤ (x : Int)) = false := decide_eq_false (by omega)
    clear e hy o1 o2 m1
    go_enter Try.func25, Try.ntmps25
    go_wp2_with fail
    refine (M1.out _).mono ?_
    rintro e w1 ⟨rfl, hb1⟩
    go_wp2_with fail
    go_ret
    exact ⟨by rw [E.out]; rfl, hb1⟩

end Go.Proofs.Ytkemhcokkaanfaa
