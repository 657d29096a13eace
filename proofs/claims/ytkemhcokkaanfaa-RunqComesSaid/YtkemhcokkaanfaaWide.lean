/-
  THE WALKS OF package wide, math/bits.Div64, doleref02.
-/
import Derived.Test.YtkemhcokkaanfaaRows
import Derived.Test.YtkemhcokkaanfaaShelf
import Derived.Test.YtkemhcokkaanfaaMath
import Derived.WalkKit
import Derived.WalkSpells
import Derived.WalkLawsBesides
import Derived.IntWalk
import Derived.Lib.Hide
import Derived.Deep.QuietTactic
import Derived.BigQuiet
namespace Go.Proofs.Ytkemhcokkaanfaa
open Go.RowKit

/-- both words of a product -/
def hi64 (a b : Nat) : Nat := a * b / 18446744073709551616
def lo64 (a b : Nat) : Nat := a * b % 18446744073709551616

theorem mul64 (a b : Nat) (ha : a < 18446744073709551616) (hb : b < 18446744073709551616) (w : World) :
    Calls Try.prog 131 #[.int .u64 a, .int .u64 b] w fun e w' => e = .returned (.tuple #[.int .u64 (hi64 a b : Nat), .int .u64 (lo64 a b : Nat)]) ∧ w = w' :=
  (Try.bits_Mul64 a b ha hb w).mono fun _ _ ⟨he, hw⟩ => ⟨he, hw.symm⟩

theorem hi64_lt (a b : Nat) (ha : a < 18446744073709551616) (hb : b < 18446744073709551616) : hi64 a b < 18446744073709551616 := by
  unfold hi64
  rw [Nat.div_lt_iff_lt_mul (by omega)]
  exact Nat.mul_lt_mul'' ha hb
theorem lo64_lt (a b : Nat) : lo64 a b < 18446744073709551616 := Nat.mod_lt _ (by omega)
theorem hi_lo (a b : Nat) : hi64 a b * 18446744073709551616 + lo64 a b = a * b := by
  unfold hi64 lo64; omega

set_option maxHeartbeats 400000 in
theorem times_any (a b : Nat) (ha : a < 18446744073709551616) (hb : b < 18446744073709551616) (w : World) :
    Calls Try.prog 96 #[.int .u64 a, .int .u64 b] w fun e w' => e = .returned (.agg #[.int .u64 (hi64 a b : Nat), .int .u64 (lo64 a b : Nat)]) ∧ Below w.heap.size w w' := by
  go_enter Try.func96, Try.ntmps96
  go_wp2_with fail
  refine (mul64 _ _ ha hb _).mono ?_
  rintro e w' ⟨rfl, rfl⟩
  go_wp2_with fail
  refine bodyPost_ret (v := .agg #[.int .u64 (hi64 a b : Nat), .int .u64 (lo64 a b : Nat)]) (by simp [results, Try.results96, go_sem]) rfl ⟨rfl, ?_⟩
  exact (Below.refl _ _).alloc (Nat.le_refl _) _

def belowB (h l h' l' : Nat) : Bool := decide (h * 18446744073709551616 + l < h' * 18446744073709551616 + l')
end Go.Proofs.Ytkemhcokkaanfaa
