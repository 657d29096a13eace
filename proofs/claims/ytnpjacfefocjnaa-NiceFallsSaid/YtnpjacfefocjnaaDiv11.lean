/-
  doleref11.Div: long division over the bits of the first factor; doleref24.Scale.
-/
import Derived.Test.YtnpjacfefocjnaaBound
namespace Go.Proofs.Ytnpjacfefocjnaa
open Go.RowKit

namespace Pm
/-- The doubling. -/
theorem twice (m q r c : Nat) (h : m = q * c + r) (hr : r < c) : (c ≤ 2 * r → 2 * m = (2 * q + 1) * c + (2 * r - c) ∧ 2 * r - c < c) ∧ (2 * r < c → 2 * m = (2 * q) * c + 2 * r) := by
  subst h
  refine ⟨fun h => ⟨?_, by omega⟩, fun _ => ?_⟩
  · rw [Nat.add_mul, Nat.mul_assoc]; omega
  · rw [Nat.mul_assoc]; omega
/-- The addend. -/
theorem plus (m q r c b : Nat) (hc : 0 < c) (h : m = q * c + r) (hr : r < c) :
    (c ≤ r + b % c → m + b = (q + b / c + 1) * c + (r + b % c - c) ∧ r + b % c - c < c) ∧ (r + b % c < c → m + b = (q + b / c) * c + (r + b % c)) := by
  have e := Nat.div_add_mod b c
  have hm := Nat.mod_lt b hc
  rw [Nat.mul_comm] at e
  generalize b / c = x at *
  generalize b % c = y at *
  subst h
  subst e
  refine ⟨fun h => ⟨?_, by omega⟩, fun _ => ?_⟩
  · rw [Nat.add_mul, Nat.add_mul]; omega
  · rw [Nat.add_mul]; omega
theorem too_great2 (a b c i m : Nat) (h : m ≤ a / 2 ^ i * b) (hm : 18446744073709551616 * c ≤ m) : c * 18446744073709551616 ≤ a * b := by
  have h1 : a / 2 ^ i * b ≤ a * b := Nat.mul_le_mul_right _ (Nat.div_le_self _ _)
  omega
theorem ge_of_q (m q r c : Nat) (h : m = q * c + r) (hq : 18446744073709551616 ≤ q) : 18446744073709551616 * c ≤ m := by
  have := Nat.mul_le_mul_right c hq
  omega
end Pm

set_option maxRecDepth 100000 in
set_option maxHeartbeats 2000000 in
theorem div11_any (a b c : Nat) (ha : a < 18446744073709551616) (hb : b < 18446744073709551616) (hc : c < 18446744073709551616) (hc0 : 0 < c) (w : World) :
    Calls Try.prog 98 #[.int .u64 a, .int .u64 b, .int .u64 c] w fun e w' =>
      e = .returned (.tuple #[.int .u64 (mdQ a b c : Nat), .bool (mdOk a b c)]) ∧ w = w' := by
  have F1 : Hid (∀ q r, a * b = q * c + r → r < c → q < 18446744073709551616 → mdOk a b c = true ∧ mdQ a b c = q) := by
    intro q r h hr hq
    have h1 : a * b < c * 18446744073709551616 := by
      have : (q + 1) * c ≤ 18446744073709551616 * c := Nat.mul_le_mul_right _ hq
      rw [Nat.add_mul] at this
      omega
    refine ⟨decide_eq_true h1, (if_pos h1).trans ?_⟩
    rw [h, Nat.add_comm, Nat.mul_comm, Nat.add_mul_div_left _ _ hc0, Nat.div_eq_of_lt hr, Nat.zero_add]
  have F2 : Hid (c * 18446744073709551616 ≤ a * b → mdOk a b c = false ∧ mdQ a b c = 0) := fun h => ⟨decide_eq_false (by omega), if_neg (by omega)⟩
  generalize mdOk a b c = vo at *
  generalize mdQ a b c = vq at *
  have c0 : ((c : Int) == 0) = false := by simp; omega
  have d1 : (b : Int) / (c : Int) = ((b / c : Nat) : Int) := (Int.natCast_ediv _ _).symm
  have d2 : (b : Int) % (c : Int) = ((b % c : Nat) : Int) := (Int.natCast_emod _ _).symm
  have d3 : b / c < 18446744073709551616 := Nat.lt_of_le_of_lt (Nat.div_le_self b c) hb
  have d4 : IntKind.u64.wrap ((b / c : Nat) : Int) = ((b / c : Nat) : Int) := wrapNat _ d3
  have d5 : b % c < c := Nat.mod_lt _ hc0
  have PL := fun m q r => Lib.hid (Pm.plus m q r c b hc0)
  obtain ⟨X, hX⟩ : ∃ X, X = b / c := ⟨_, rfl⟩
  obtain ⟨Y, hY⟩ : ∃ Y, Y = b % c := ⟨_, rfl⟩
  rw [← hX] at d1 d3 d4
  rw [← hY] at d2 d5
  simp only [← hX, ← hY] at PL
  have PLH := Lib.hid PL
  clear PL hX hY
  go_enter Try.func98, Try.ntmps98
  go_wp2_with fail
  go_loop [8, 9, 10] (fun s8 s9 s10 => ∃ (k q r : Nat) (j : Int), k ≤ 64 ∧ q < 18446744073709551616 ∧ r < c ∧ s8 = .int .u64 q ∧ s9 = .int .u64 r ∧ s10 = .int .i64 j ∧ j = (k : Int) - 1 ∧ Hid (a / 2 ^ k * b = q * c + r)) (fun _ _ s10 => (intOf s10 + 1).toNat)
  case atStart =>
    have h0 : a / 2 ^ 64 = 0 := Nat.div_eq_of_lt (by simpa using ha)
    exact ⟨64, 0, 0, 63, by omega, by omega, hc0, rfl, rfl, rfl, by omega, by rw [h0]; simp [Hid]⟩
  case round =>
    obtain ⟨k, q, r, j, hk, hq, hr, rfl, rfl, rfl, hj, H⟩ := hrel
    rcases Nat.eq_zero_or_pos k with rfl | hkp
    · have h1 := H.out
      simp only [Nat.pow_zero, Nat.div_one] at h1
      obtain ⟨rfl, rfl⟩ := F1.out q r h1 hr hq
      obtain rfl : j = -1 := by omega
      clear h1 H F1 F2 PLH hj
      go_wp2_with fail
      go_ret2
      exact ⟨rfl, rfl⟩
    · obtain ⟨i, rfl⟩ : ∃ i, k = i + 1 := ⟨k - 1, by omega⟩
      obtain rfl : j = (i : Int) := by omega
      clear hj
      have hi : i ≤ 63 := by omega
      have z1 : decide ((0 : Int) ≤ (i : Int)) = true := decide_eq_true (by omega)
      have tw := Pm.twice _ q r c H.out hr
      have TW := Lib.hid tw
      clear tw
      have hst := Pm.halve_step a i
      have eb : (a / 2 ^ i % 2 = 0 ∧ bits .and .u64 ((a : Int) / 2 ^ i) 1 = 0) ∨ (a / 2 ^ i % 2 = 1 ∧ bits .and .u64 ((a : Int) / 2 ^ i) 1 = 1) := by
        have h1 : (a : Int) / 2 ^ i = ((a / 2 ^ i : Nat) : Int) := by simp
        have h2 := bits_and_u64_nat (a / 2 ^ i) 1 (Nat.lt_of_le_of_lt (Nat.div_le_self _ _) ha) (by omega)
        rw [Nat.and_one_is_mod] at h2
        rw [h1]
        have h3 : ((1 : Nat) : Int) = 1 := rfl
        rw [h3] at h2
        rw [h2]
        have := Nat.mod_lt (a / 2 ^ i) (show 0 < 2 by omega)
        generalize a / 2 ^ i % 2 = z at *
        have hz : z = 0 ∨ z = 1 := by omega
        rcases hz with rfl | rfl
        · exact .inl ⟨rfl, rfl⟩
        · exact .inr ⟨rfl, rfl⟩
      by_cases big : 9223372036854775807 < q
      · have big1 : decide ((9223372036854775807 : Int) < (q : Int)) = true := decide_eq_true (by omega)
        have toobig : 18446744073709551616 * c ≤ a / 2 ^ i * b := by
          have h1 : 2 * (a / 2 ^ (i + 1)) * b ≤ a / 2 ^ i * b := Nat.mul_le_mul_right _ (by omega)
          have h2 := H.out
          rw [Nat.mul_assoc, h2] at h1
          have h3 : 9223372036854775808 * c ≤ q * c := Nat.mul_le_mul_right _ big
          omega
        obtain ⟨rfl, rfl⟩ := F2.out (Pm.too_great2 a b c i _ (Nat.le_refl _) toobig)
        clear F1 F2 PLH TW H hst toobig eb
        go_wp2_with fail
        go_ret2
        exact ⟨rfl, rfl⟩
      · have big1 : decide ((9223372036854775807 : Int) < (q : Int)) = false := decide_eq_false (by omega)
        obtain ⟨cr0, hcr0⟩ : ∃ x, x = c - r := ⟨_, rfl⟩
        have d8 : (c : Int) - (r : Int) = (cr0 : Int) := by omega
        obtain ⟨rr, hrr⟩ : ∃ x, x = r + r := ⟨_, rfl⟩
        have d9 : (r : Int) + (r : Int) = (rr : Int) := by omega
        obtain ⟨q0, hq0⟩ : ∃ x, x = 2 * q := ⟨_, rfl⟩
        have d10 : 2 * (q : Int) = (q0 : Int) := by omega
        have d13 : q0 < 18446744073709551616 := by omega
        by_cases ov : c ≤ 2 * r
        · have ov1 : decide (cr0 ≤ r) = true := decide_eq_true (by omega)
          have d11 : (q0 : Int) + 1 = ((2 * q + 1 : Nat) : Int) := by omega
          have d12 : IntKind.u64.wrap (IntKind.u64.wrap (rr : Int) - (c : Int)) = ((2 * r - c : Nat) : Int) := by simp only [IntKind.wrap_u64]; omega
          have d14 : IntKind.u64.wrap ((rr : Int) - (c : Int)) = ((2 * r - c : Nat) : Int) := by simp only [IntKind.wrap_u64]; omega
          have hq1 : 2 * q + 1 < 18446744073709551616 := by omega
          have hr1 : 2 * r - c < c := by omega
          have hm1 : 2 * (a / 2 ^ (i + 1)) * b = (2 * q + 1) * c + (2 * r - c) := by rw [Nat.mul_assoc]; exact (TW.out.1 ov).1
          clear hcr0 hrr hq0
          generalize 2 * q + 1 = q1 at *
          generalize 2 * r - c = r1 at *
          rcases eb with ⟨e0, eb⟩ | ⟨e0, eb⟩
          · rw [e0, Nat.add_zero] at hst
            have hq9 : q1 < 18446744073709551616 := by omega
            have hn := Lib.hid (show a / 2 ^ i * b = q1 * c + (r1) from (by rw [hst]; exact hm1))
            have hr9 : r1 < c := by omega
            clear F1 F2 PLH TW H hst
            go_wp2_with fail
            go_round
            case rel => exact ⟨i, q1, r1, (i : Int) - 1, by omega, hq9, hr9, rfl, rfl, rfl, rfl, hn⟩
            case measure => simp [intOf]
          · rw [e0] at hst
            have pl := (PLH.out (2 * (a / 2 ^ (i + 1)) * b) q1 r1).out hm1 hr1
            have hst2 : a / 2 ^ i * b = 2 * (a / 2 ^ (i + 1)) * b + b := by rw [hst, Nat.add_mul, Nat.one_mul]
            rw [← hst2] at pl
            obtain ⟨pl1, pl2⟩ := pl
            have s1 : (18446744073709551615 : Int) - (q1 : Int) = ((18446744073709551615 - q1 : Nat) : Int) := by omega
            have s2 : (c : Int) - (r1 : Int) = ((c - r1 : Nat) : Int) := by omega
            have s3 : (q1 : Int) + (X : Int) = ((q1 + X : Nat) : Int) := by omega
            by_cases g1 : 18446744073709551615 - q1 < X
            · have big : 18446744073709551616 * c ≤ a / 2 ^ i * b := by
                by_cases hh : c ≤ r1 + Y
                · exact Pm.ge_of_q _ _ _ _ (pl1 hh).1 (by omega)
                · exact Pm.ge_of_q _ _ _ _ (pl2 (by omega)) (by omega)
              have g1' : decide (18446744073709551615 - q1 < X) = true := decide_eq_true g1
              generalize 18446744073709551615 - q1 = tq at *
              generalize c - r1 = cr at *
              obtain ⟨rfl, rfl⟩ := F2.out (Pm.too_great2 a b c i _ (Nat.le_refl _) big)
              clear F1 F2 PLH TW H hst pl1 pl2 hst2 big hm1
              go_wp2_with fail
              go_ret2
              exact ⟨rfl, rfl⟩
            · have g1' : decide (18446744073709551615 - q1 < X) = false := decide_eq_false g1
              have hq2 : q1 + X < 18446744073709551616 := by omega
              by_cases g2 : c ≤ r1 + Y
              · have g2' : decide (c - r1 ≤ Y) = true := decide_eq_true (by omega)
                by_cases g3 : q1 + X = 18446744073709551615
                · have big : 18446744073709551616 * c ≤ a / 2 ^ i * b := Pm.ge_of_q _ _ _ _ (pl1 g2).1 (by omega)
                  have g3' : ((q1 + X : Nat) : Int) = 18446744073709551615 := by omega
                  rw [g3'] at s3
                  generalize 18446744073709551615 - q1 = tq at *
                  generalize c - r1 = cr at *
                  obtain ⟨rfl, rfl⟩ := F2.out (Pm.too_great2 a b c i _ (Nat.le_refl _) big)
                  clear F1 F2 PLH TW H hst pl1 pl2 hst2 big hm1 g3 g3'
                  go_wp2_with fail
                  go_ret2
                  exact ⟨rfl, rfl⟩
                · have g3' : (((q1 + X : Nat) : Int) == 18446744073709551615) = false := by simp; omega
                  have h9 := pl1 g2
                  have s4 : ((q1 + X : Nat) : Int) + 1 = ((q1 + X + 1 : Nat) : Int) := by omega
                  obtain ⟨cy, hcy⟩ : ∃ x, x = c - Y := ⟨_, rfl⟩
                  have s6 : (c : Int) - (Y : Int) = (cy : Int) := by omega
                  have s5 : (r1 : Int) - (cy : Int) = ((r1 + Y - c : Nat) : Int) := by omega
                  clear hcy
                  have hq9 : q1 + X + 1 < 18446744073709551616 := by omega
                  have hn := Lib.hid (show a / 2 ^ i * b = (q1 + X + 1) * c + (r1 + Y - c) from h9.1)
                  have hr9 := h9.2
                  clear F1 F2 PLH TW H hst pl1 pl2 hst2 hm1 h9
                  generalize 18446744073709551615 - q1 = tq at *
                  generalize c - r1 = cr at *
                  generalize r1 + Y - c = r3 at *
                  generalize q1 + X + 1 = q3 at *
                  generalize q1 + X = q2 at *
                  go_wp2_with fail
                  go_round
                  case rel => exact ⟨i, q3, r3, (i : Int) - 1, by omega, hq9, hr9, rfl, rfl, rfl, rfl, hn⟩
                  case measure => simp [intOf]
              · have g2' : decide (c - r1 ≤ Y) = false := decide_eq_false (by omega)
                have h9 := pl2 (by omega)
                have s5 : (r1 : Int) + (Y : Int) = ((r1 + Y : Nat) : Int) := by omega
                have hn := Lib.hid (show a / 2 ^ i * b = (q1 + X) * c + (r1 + Y) from h9)
                have hr9 : r1 + Y < c := by omega
                clear F1 F2 PLH TW H hst pl1 pl2 hst2 hm1 h9
                generalize 18446744073709551615 - q1 = tq at *
                generalize c - r1 = cr at *
                generalize r1 + Y = r3 at *
                generalize q1 + X = q2 at *
                go_wp2_with fail
                go_round
                case rel => exact ⟨i, q2, r3, (i : Int) - 1, by omega, hq2, hr9, rfl, rfl, rfl, rfl, hn⟩
                case measure => simp [intOf]
        · have ov1 : decide (cr0 ≤ r) = false := decide_eq_false (by omega)
          rw [show q0 = 2 * q from hq0] at d10 d13
          rw [show rr = 2 * r by omega] at d9
          have hq1 : 2 * q < 18446744073709551616 := by omega
          have hr1 : 2 * r < c := by omega
          have hm1 : 2 * (a / 2 ^ (i + 1)) * b = (2 * q) * c + (2 * r) := by rw [Nat.mul_assoc]; exact (TW.out.2 (by omega))
          clear hcr0 hrr hq0
          generalize 2 * q = q1 at *
          generalize 2 * r = r1 at *
          rcases eb with ⟨e0, eb⟩ | ⟨e0, eb⟩
          · rw [e0, Nat.add_zero] at hst
            have hq9 : q1 < 18446744073709551616 := by omega
            have hn := Lib.hid (show a / 2 ^ i * b = q1 * c + (r1) from (by rw [hst]; exact hm1))
            have hr9 : r1 < c := by omega
            clear F1 F2 PLH TW H hst
            go_wp2_with fail
            go_round
            case rel => exact ⟨i, q1, r1, (i : Int) - 1, by omega, hq9, hr9, rfl, rfl, rfl, rfl, hn⟩
            case measure => simp [intOf]
          · rw [e0] at hst
            have pl := (PLH.out (2 * (a / 2 ^ (i + 1)) * b) q1 r1).out hm1 hr1
            have hst2 : a / 2 ^ i * b = 2 * (a / 2 ^ (i + 1)) * b + b := by rw [hst, Nat.add_mul, Nat.one_mul]
            rw [← hst2] at pl
            obtain ⟨pl1, pl2⟩ := pl
            have s1 : (18446744073709551615 : Int) - (q1 : Int) = ((18446744073709551615 - q1 : Nat) : Int) := by omega
            have s2 : (c : Int) - (r1 : Int) = ((c - r1 : Nat) : Int) := by omega
            have s3 : (q1 : Int) + (X : Int) = ((q1 + X : Nat) : Int) := by omega
            by_cases g1 : 18446744073709551615 - q1 < X
            · have big : 18446744073709551616 * c ≤ a / 2 ^ i * b := by
                by_cases hh : c ≤ r1 + Y
                · exact Pm.ge_of_q _ _ _ _ (pl1 hh).1 (by omega)
                · exact Pm.ge_of_q _ _ _ _ (pl2 (by omega)) (by omega)
              have g1' : decide (18446744073709551615 - q1 < X) = true := decide_eq_true g1
              generalize 18446744073709551615 - q1 = tq at *
              generalize c - r1 = cr at *
              obtain ⟨rfl, rfl⟩ := F2.out (Pm.too_great2 a b c i _ (Nat.le_refl _) big)
              clear F1 F2 PLH TW H hst pl1 pl2 hst2 big hm1
              go_wp2_with fail
              go_ret2
              exact ⟨rfl, rfl⟩
            · have g1' : decide (18446744073709551615 - q1 < X) = false := decide_eq_false g1
              have hq2 : q1 + X < 18446744073709551616 := by omega
              by_cases g2 : c ≤ r1 + Y
              · have g2' : decide (c - r1 ≤ Y) = true := decide_eq_true (by omega)
                by_cases g3 : q1 + X = 18446744073709551615
                · have big : 18446744073709551616 * c ≤ a / 2 ^ i * b := Pm.ge_of_q _ _ _ _ (pl1 g2).1 (by omega)
                  have g3' : ((q1 + X : Nat) : Int) = 18446744073709551615 := by omega
                  rw [g3'] at s3
                  generalize 18446744073709551615 - q1 = tq at *
                  generalize c - r1 = cr at *
                  obtain ⟨rfl, rfl⟩ := F2.out (Pm.too_great2 a b c i _ (Nat.le_refl _) big)
                  clear F1 F2 PLH TW H hst pl1 pl2 hst2 big hm1 g3 g3'
                  go_wp2_with fail
                  go_ret2
                  exact ⟨rfl, rfl⟩
                · have g3' : (((q1 + X : Nat) : Int) == 18446744073709551615) = false := by simp; omega
                  have h9 := pl1 g2
                  have s4 : ((q1 + X : Nat) : Int) + 1 = ((q1 + X + 1 : Nat) : Int) := by omega
                  obtain ⟨cy, hcy⟩ : ∃ x, x = c - Y := ⟨_, rfl⟩
                  have s6 : (c : Int) - (Y : Int) = (cy : Int) := by omega
                  have s5 : (r1 : Int) - (cy : Int) = ((r1 + Y - c : Nat) : Int) := by omega
                  clear hcy
                  have hq9 : q1 + X + 1 < 18446744073709551616 := by omega
                  have hn := Lib.hid (show a / 2 ^ i * b = (q1 + X + 1) * c + (r1 + Y - c) from h9.1)
                  have hr9 := h9.2
                  clear F1 F2 PLH TW H hst pl1 pl2 hst2 hm1 h9
                  generalize 18446744073709551615 - q1 = tq at *
                  generalize c - r1 = cr at *
                  generalize r1 + Y - c = r3 at *
                  generalize q1 + X + 1 = q3 at *
                  generalize q1 + X = q2 at *
                  go_wp2_with fail
                  go_round
                  case rel => exact ⟨i, q3, r3, (i : Int) - 1, by omega, hq9, hr9, rfl, rfl, rfl, rfl, hn⟩
                  case measure => simp [intOf]
              · have g2' : decide (c - r1 ≤ Y) = false := decide_eq_false (by omega)
                have h9 := pl2 (by omega)
                have s5 : (r1 : Int) + (Y : Int) = ((r1 + Y : Nat) : Int) := by omega
                have hn := Lib.hid (show a / 2 ^ i * b = (q1 + X) * c + (r1 + Y) from h9)
                have hr9 : r1 + Y < c := by omega
                clear F1 F2 PLH TW H hst pl1 pl2 hst2 hm1 h9
                generalize 18446744073709551615 - q1 = tq at *
                generalize c - r1 = cr at *
                generalize r1 + Y = r3 at *
                generalize q1 + X = q2 at *
                go_wp2_with fail
                go_round
                case rel => exact ⟨i, q2, r3, (i : Int) - 1, by omega, hq2, hr9, rfl, rfl, rfl, rfl, hn⟩
                case measure => simp [intOf]

end Go.Proofs.Ytnpjacfefocjnaa
