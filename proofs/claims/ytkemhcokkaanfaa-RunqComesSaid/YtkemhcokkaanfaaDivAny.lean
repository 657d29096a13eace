/-
  math/bits.Div64 at every dividend whose upper word is below the divisor; wide.MulDiv, Up, Compare.
-/
import Derived.Test.YtkemhcokkaanfaaDiv
import Derived.Lib.ItoaNum
namespace Go.Proofs.Ytkemhcokkaanfaa
open Go.RowKit

namespace Pm
theorem lz_facts (c : Nat) (hp : 0 < c) (hc : c < 18446744073709551616) :
    Lib.bitLen c ≤ 64 ∧ lz c ≤ 63 ∧ 9223372036854775808 ≤ c * 2 ^ lz c ∧ c * 2 ^ lz c < 18446744073709551616 := by
  obtain ⟨h1, h2, h3⟩ := Lib.bitLenAux_bounds 64 c hc (by omega)
  have h4 : Lib.bitLen c ≤ 64 := Lib.bitLen_le c 64 (by omega) hc
  have e : Lib.bitLen c = Lib.bitLenAux 64 c := rfl
  rw [← e] at h1 h2 h3
  unfold lz
  generalize Lib.bitLen c = z at *
  refine ⟨h4, by omega, ?_, ?_⟩
  · have : 2 ^ (z - 1) * 2 ^ (64 - z) ≤ c * 2 ^ (64 - z) := Nat.mul_le_mul_right _ h2
    rw [← Nat.pow_add, show z - 1 + (64 - z) = 63 by omega] at this
    exact this
  · have : c * 2 ^ (64 - z) < 2 ^ z * 2 ^ (64 - z) := Nat.mul_lt_mul_of_pos_right h3 (Nat.two_pow_pos _)
    rw [← Nat.pow_add, show z + (64 - z) = 64 by omega] at this
    exact this

theorem shl_split (l s : Nat) (hs : s ≤ 64) : l * 2 ^ s = (l / 2 ^ (64 - s)) * 18446744073709551616 + (l * 2 ^ s) % 18446744073709551616 := by
  have e : (18446744073709551616 : Nat) = 2 ^ (64 - s) * 2 ^ s := by
    rw [← Nat.pow_add, show 64 - s + s = 64 by omega]
  have h := Nat.div_add_mod (l * 2 ^ s) 18446744073709551616
  have h2 : l * 2 ^ s / 18446744073709551616 = l / 2 ^ (64 - s) := by
    rw [e]; exact Nat.mul_div_mul_right _ _ (Nat.two_pow_pos _)
  rw [h2] at h
  omega
end Pm

theorem powI (a s : Nat) : (a : Int) * 2 ^ s = ((a * 2 ^ s : Nat) : Int) := by simp

set_option maxHeartbeats 1000000 in
theorem div64_pos (h l c : Nat) (hl : l < 18446744073709551616) (hc : c < 18446744073709551616) (hp : 0 < h) (hh : h < c) (w : World) :
    Calls Try.prog 97 #[.int .u64 h, .int .u64 l, .int .u64 c] w fun e w' => e = .returned (.tuple #[.int .u64 (quo64 h l c : Nat), .int .u64 (rem64 h l c : Nat)]) ∧ w = w' := by
  obtain ⟨z1, z2, z3, z4⟩ := Pm.lz_facts c (by omega) hc
  have clz := fun W => lz_any c hc z1 W
  generalize hs : lz c = s at *
  have hpow : 0 < 2 ^ s := Nat.two_pow_pos _
  have hlo := Pm.shl_split l s (by omega)
  have hq : l / 2 ^ (64 - s) < 2 ^ s := by
    rw [Nat.div_lt_iff_lt_mul (Nat.two_pow_pos _), ← Nat.pow_add, show s + (64 - s) = 64 by omega]
    exact hl
  have hhs : (h + 1) * 2 ^ s ≤ c * 2 ^ s := Nat.mul_le_mul_right _ hh
  rw [Nat.add_mul, Nat.one_mul] at hhs
  have hN : (h * 18446744073709551616 + l) * 2 ^ s = (h * 2 ^ s + l / 2 ^ (64 - s)) * 18446744073709551616 + (l * 2 ^ s) % 18446744073709551616 := by
    rw [Nat.add_mul, Nat.mul_right_comm]; omega
  have hor : (h * 2 ^ s) ||| (l / 2 ^ (64 - s)) = h * 2 ^ s + l / 2 ^ (64 - s) := by
    rw [Nat.mul_comm h, ← Nat.two_pow_add_eq_or_of_lt hq]
  have r1 := powI c s
  have r4 := powI h s
  have r6 := powI l s
  have q1 := Pm.scaled_div (h * 18446744073709551616 + l) c (2 ^ s) hpow
  have q2 := Pm.scaled_mod (h * 18446744073709551616 + l) c (2 ^ s)
  rw [hN] at q1 q2
  have cast1 : (l : Int) / 2 ^ (64 - s) = ((l / 2 ^ (64 - s) : Nat) : Int) := by simp
  generalize hy : c * 2 ^ s = y at *
  generalize hhs' : h * 2 ^ s = hs2 at *
  generalize hu0 : l / 2 ^ (64 - s) = lq at *
  have r6' : IntKind.u64.wrap ((l : Int) * 2 ^ s) = ((l * 2 ^ s % 18446744073709551616 : Nat) : Int) := by
    rw [r6, IntKind.wrap_u64]; omega
  have hun1 : l * 2 ^ s % 18446744073709551616 < 18446744073709551616 := Nat.mod_lt _ (by omega)
  generalize hun : (l * 2 ^ s) % 18446744073709551616 = un10 at *
  have e1 : (hs2 + lq) * 18446744073709551616 + un10 = ((hs2 + lq) * 4294967296 + un10 / 4294967296) * 4294967296 + un10 % 4294967296 := by omega
  obtain ⟨t1, t2⟩ := Pm.two_digits (hs2 + lq) (un10 / 4294967296) (un10 % 4294967296) y (by omega)
  rw [← e1] at t1 t2
  have core := div64_core h l c s y (y / 4294967296) (y % 4294967296) hs2 (hs2 + lq) un10 (un10 / 4294967296) (un10 % 4294967296) _ _ _ hp hh z2 w (fun W => clz W)
    (by rw [r1]; exact wrapNat _ z4) (by omega) (Mul64.maskN y z4) (by rw [r4]; exact wrapNat _ (by omega))
    (by rw [cast1, bits_or_u64_nat _ _ (by omega) (by omega), hor]) r6' (by omega) (Mul64.maskN un10 hun1)
    (by omega) (by omega) (by omega) (by omega) (by omega) (by omega) z4 (show y = _ by omega) (by omega) rfl rfl rfl
  refine core.mono ?_
  rintro e w' ⟨rfl, rfl⟩
  refine ⟨?_, rfl⟩
  have a1 : quo64 h l c = (((hs2 + lq) * 4294967296 + un10 / 4294967296) / y) * 4294967296 + ((((hs2 + lq) * 4294967296 + un10 / 4294967296) % y) * 4294967296 + un10 % 4294967296) / y := by
    rw [← t1, q1]; rfl
  have a2 : rem64 h l c = (((((hs2 + lq) * 4294967296 + un10 / 4294967296) % y) * 4294967296 + un10 % 4294967296) % y) / 2 ^ s := by
    rw [← t2, q2, Nat.mul_div_cancel _ hpow]; rfl
  rw [a1, a2]

end Go.Proofs.Ytkemhcokkaanfaa
