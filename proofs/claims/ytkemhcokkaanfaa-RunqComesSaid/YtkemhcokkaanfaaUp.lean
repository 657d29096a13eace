/-
  wide.Up; doleref02: Product, bit, MulDiv, Up, Compare.
-/
import Derived.Test.YtkemhcokkaanfaaMul
namespace Go.Proofs.Ytkemhcokkaanfaa
open Go.RowKit

/-- a times b, divided by c, rounded up -/
def upOk (a b c : Nat) : Bool := mdOk a b c && (decide (mdR a b c = 0) || decide (mdQ a b c < 18446744073709551615))
def upV (a b c : Nat) : Nat := if mdOk a b c = true then (if mdR a b c = 0 then mdQ a b c else if mdQ a b c < 18446744073709551615 then mdQ a b c + 1 else 0) else 0

theorem mdQ_lt (a b c : Nat) : mdQ a b c < 18446744073709551616 := by
  unfold mdQ
  split
  · rename_i h
    rcases Nat.eq_zero_or_pos c with rfl | hc
    · omega
    · rw [Nat.div_lt_iff_lt_mul hc, Nat.mul_comm 18446744073709551616]; exact h
  · omega
theorem mdR_lt (a b c : Nat) (hc : c < 18446744073709551616) : mdR a b c < 18446744073709551616 := by
  unfold mdR
  split
  · rename_i h
    rcases Nat.eq_zero_or_pos c with rfl | hc0
    · omega
    · exact Nat.lt_trans (Nat.mod_lt _ hc0) hc
  · omega

/-! ### doleref02 -/
theorem mulN (a b : Nat) : (a : Int) * (b : Int) = ((a * b : Nat) : Int) := (Int.natCast_mul a b).symm

set_option maxHeartbeats 400000 in
theorem product_any (a b : Nat) (ha : a < 18446744073709551616) (hb : b < 18446744073709551616) (w : World) :
    Calls Try.prog 138 #[.int .u64 a, .int .u64 b] w fun e w' => e = .returned (.tuple #[.int .u64 (hi64 a b : Nat), .int .u64 (lo64 a b : Nat)]) ∧ w = w' := by
  have al : (a : Int) % 4294967296 = ((a % 4294967296 : Nat) : Int) := by omega
  have ah : (a : Int) / 4294967296 = ((a / 4294967296 : Nat) : Int) := by omega
  have bl : (b : Int) % 4294967296 = ((b % 4294967296 : Nat) : Int) := by omega
  have bh : (b : Int) / 4294967296 = ((b / 4294967296 : Nat) : Int) := by omega
  have e : a * b = (a / 4294967296) * (b / 4294967296) * (4294967296 * 4294967296) + ((a / 4294967296) * (b % 4294967296) + (a % 4294967296) * (b / 4294967296)) * 4294967296 + (a % 4294967296) * (b % 4294967296) := by
    rw [← Lib.split_mul, Nat.div_add_mod' a 4294967296, Nat.div_add_mod' b 4294967296]
  have lt1 : a % 4294967296 < 4294967296 := Nat.mod_lt _ (by omega)
  have lt2 : b % 4294967296 < 4294967296 := Nat.mod_lt _ (by omega)
  have lt3 : a / 4294967296 < 4294967296 := by omega
  have lt4 : b / 4294967296 < 4294967296 := by omega
  have whole : IntKind.u64.wrap ((a : Int) * (b : Int)) = ((lo64 a b : Nat) : Int) := by rw [mulN, Mul64.wrapM]; rfl
  have hhi : hi64 a b = a * b / 18446744073709551616 := rfl
  have hlt := hi64_lt a b ha hb
  rw [e] at hhi
  generalize hi64 a b = H at *
  generalize lo64 a b = L at *
  have p1 := Nat.mul_lt_mul'' lt1 lt2
  have p2 := Nat.mul_lt_mul'' lt1 lt4
  have p3 := Nat.mul_lt_mul'' lt3 lt2
  have p4 := Nat.mul_lt_mul'' lt3 lt4
  have m1 : IntKind.u64.wrap (((a % 4294967296 : Nat) : Int) * ((b % 4294967296 : Nat) : Int)) = ((a % 4294967296 * (b % 4294967296) : Nat) : Int) := by rw [mulN]; exact wrapNat _ (by omega)
  have m2 : IntKind.u64.wrap (((a % 4294967296 : Nat) : Int) * ((b / 4294967296 : Nat) : Int)) = ((a % 4294967296 * (b / 4294967296) : Nat) : Int) := by rw [mulN]; exact wrapNat _ (by omega)
  have m3 : IntKind.u64.wrap (((a / 4294967296 : Nat) : Int) * ((b % 4294967296 : Nat) : Int)) = ((a / 4294967296 * (b % 4294967296) : Nat) : Int) := by rw [mulN]; exact wrapNat _ (by omega)
  have m4 : IntKind.u64.wrap (((a / 4294967296 : Nat) : Int) * ((b / 4294967296 : Nat) : Int)) = ((a / 4294967296 * (b / 4294967296) : Nat) : Int) := by rw [mulN]; exact wrapNat _ (by omega)
  clear e
  generalize a % 4294967296 * (b % 4294967296) = q1 at *
  generalize a % 4294967296 * (b / 4294967296) = q2 at *
  generalize a / 4294967296 * (b % 4294967296) = q3 at *
  generalize a / 4294967296 * (b / 4294967296) = q4 at *
  generalize a % 4294967296 = a0 at *
  generalize a / 4294967296 = a1 at *
  generalize b % 4294967296 = b0 at *
  generalize b / 4294967296 = b1 at *
  have g : (q4 : Int) + (q2 : Int) / 4294967296 + (q3 : Int) / 4294967296 + ((q1 : Int) / 4294967296 + (q2 : Int) % 4294967296 + (q3 : Int) % 4294967296) / 4294967296 = (H : Int) := by omega
  have g1 : (q4 : Int) + (q2 : Int) / 4294967296 + (q3 : Int) / 4294967296 + ((q1 : Int) / 4294967296 + (q2 : Int) % 4294967296 + (q3 : Int) % 4294967296) / 4294967296 ≤ 18446744073709551615 := by omega
  have G := Lib.hid g
  clear g hhi
  go_enter Try.func138, Try.ntmps138
  go_wp2_with fail
  go_ret2
  rw [G.out]
  exact ⟨rfl, rfl⟩

end Go.Proofs.Ytkemhcokkaanfaa
