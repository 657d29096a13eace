/-
  THE WALK OF math/bits.Div64.
-/
import Derived.Test.YtkemhcokkaanfaaWide
import Derived.LoopTactic
import Derived.Outline
namespace Go.Proofs.Ytkemhcokkaanfaa
open Go.RowKit

def quo64 (h l c : Nat) : Nat := (h * 18446744073709551616 + l) / c
def rem64 (h l c : Nat) : Nat := (h * 18446744073709551616 + l) % c

theorem wrapNat (n : Nat) (h : n < 18446744073709551616) : IntKind.u64.wrap (n : Int) = (n : Int) := by
  rw [IntKind.wrap_u64]; omega

set_option maxHeartbeats 400000 in
theorem div64_zero (l c : Nat) (hl : l < 18446744073709551616) (hc : c < 18446744073709551616) (hp : 0 < c) (w : World) :
    Calls Try.prog 97 #[.int .u64 0, .int .u64 l, .int .u64 c] w fun e w' => e = .returned (.tuple #[.int .u64 (quo64 0 l c : Nat), .int .u64 (rem64 0 l c : Nat)]) ∧ ∃ n, w' = w.drewN n := by
  have c0 : ((c : Int) == 0) = false := by simp; omega
  have d1 : IntKind.u64.wrap ((l : Int) / (c : Int)) = (l : Int) / (c : Int) := by
    rw [← Int.natCast_ediv]
    exact wrapNat _ (Nat.lt_of_le_of_lt (Nat.div_le_self l c) hl)
  go_enter Try.func97, Try.ntmps97
  go_wp2_with fail
  go_quiet (fail)
  go_wp2_with fail
  go_ret2
  exact ⟨by simp [quo64, rem64], by exact ⟨_, rfl⟩⟩

def lz (c : Nat) : Nat := 64 - Lib.bitLen c

theorem lz_any (c : Nat) (hc : c < 18446744073709551616) (hb : Lib.bitLen c ≤ 64) (w : World) :
    Calls Try.prog 132 #[.int .u64 c] w fun e w' => e = .returned (.int .i64 (lz c : Nat)) ∧ w = w' :=
  (Try.bits_LeadingZeros64 (c : Int) w (by omega) (by omega)).mono fun _ _ ⟨he, hw⟩ => ⟨by rw [he]; simp [lz]; omega, hw.symm⟩

set_option maxRecDepth 100000 in
set_option maxHeartbeats 2000000 in
theorem div64_core (h l c s y yn1 yn0 hs u un10 un1 un0 qt v q2 : Nat) (hp : 0 < h) (hh : h < c)
    (hs3 : s ≤ 63) (w : World)
    (CLZ : ∀ W : World, Hid (Calls Try.prog 132 #[.int .u64 c] W fun e w' => e = .returned (.int .i64 s) ∧ W = w'))
    (r1 : IntKind.u64.wrap ((c : Int) * 2 ^ s) = (y : Int)) (r2 : (y : Int) / 4294967296 = (yn1 : Int)) (r3 : bits .and .u64 (y : Int) 4294967295 = (yn0 : Int))
    (r4 : IntKind.u64.wrap ((h : Int) * 2 ^ s) = (hs : Int)) (r5 : bits .or .u64 (hs : Int) ((l : Int) / 2 ^ (64 - s)) = (u : Int))
    (r6 : IntKind.u64.wrap ((l : Int) * 2 ^ s) = (un10 : Int)) (r7 : (un10 : Int) / 4294967296 = (un1 : Int)) (r8 : bits .and .u64 (un10 : Int) 4294967295 = (un0 : Int))
    (b1 : 2147483648 ≤ yn1) (b2 : yn1 < 4294967296) (b3 : yn0 < 4294967296) (b4 : u < 18446744073709551616) (b5 : un1 < 4294967296) (b6 : un0 < 4294967296) (b7 : y < 18446744073709551616)
    (hy : Hid (y = yn1 * 4294967296 + yn0)) (huy : u < y) (hqt : Hid (qt = (u * 4294967296 + un1) / y)) (hv : Hid (v = (u * 4294967296 + un1) % y)) (hq2 : Hid (q2 = (v * 4294967296 + un0) / y)) :
    Calls Try.prog 97 #[.int .u64 h, .int .u64 l, .int .u64 c] w fun e w' =>
      e = .returned (.tuple #[.int .u64 ((qt * 4294967296 + q2 : Nat) : Int), .int .u64 ((((v * 4294967296 + un0) % y) / 2 ^ s : Nat) : Int)]) ∧ w = w' := by
  have c0 : ((c : Int) == 0) = false := by simp; omega
  have h0 : ((h : Int) == 0) = false := by simp; omega
  obtain ⟨e1, e2, e3⟩ := Pm.digit_start u yn1 yn0 un1 y hy.out b1 b3 huy
  replace e3 := e3 b5
  rw [← hqt.out] at e3
  obtain ⟨q, hq⟩ : ∃ q, q = u / yn1 := ⟨_, rfl⟩
  obtain ⟨r, hr⟩ : ∃ r, r = u % yn1 := ⟨_, rfl⟩
  rw [← hq, ← hr] at e1
  rw [← hq] at e2 e3
  have br : r < yn1 := by rw [hr]; exact Nat.mod_lt _ (by omega)
  have r9 : (u : Int) / (yn1 : Int) = (q : Int) := by rw [hq]; exact (Int.natCast_ediv _ _).symm
  have r10 : IntKind.u64.wrap ((u : Int) - IntKind.u64.wrap ((q : Int) * (yn1 : Int))) = (r : Int) := by
    rw [← Int.natCast_mul, wrapNat _ (by omega), show (u : Int) - ((q * yn1 : Nat) : Int) = (r : Int) by omega, wrapNat _ (by omega)]
  have E1 := Lib.hid e1
  clear hq hr e1
  -- behind the first loop
  have hv0 : u * 4294967296 + un1 = qt * y + v := by
    have := Nat.div_add_mod (u * 4294967296 + un1) y
    rw [← hqt.out, ← hv.out, Nat.mul_comm y qt] at this; exact this.symm
  have hvy : v < y := by rw [hv.out]; exact Nat.mod_lt _ (by omega)
  have hqtB : qt < 4294967296 := by rw [hqt.out]; exact Pm.digit_lt u un1 y huy b5
  have t4 : IntKind.u64.wrap (IntKind.u64.wrap (IntKind.u64.wrap ((u : Int) * 4294967296) + (un1 : Int)) - IntKind.u64.wrap ((qt : Int) * (y : Int))) = (v : Int) := by
    rw [← Int.natCast_mul qt y]
    generalize qt * y = m at *
    simp only [IntKind.wrap_u64]
    omega
  obtain ⟨f1, f2, f3⟩ := Pm.digit_start v yn1 yn0 un0 y hy.out b1 b3 hvy
  replace f3 := f3 b6
  rw [← hq2.out] at f3
  obtain ⟨q', hq⟩ : ∃ q, q = v / yn1 := ⟨_, rfl⟩
  obtain ⟨r', hr⟩ : ∃ r, r = v % yn1 := ⟨_, rfl⟩
  rw [← hq, ← hr] at f1
  rw [← hq] at f2 f3
  have br' : r' < yn1 := by rw [hr]; exact Nat.mod_lt _ (by omega)
  have t9 : (v : Int) / (yn1 : Int) = (q' : Int) := by rw [hq]; exact (Int.natCast_ediv _ _).symm
  have t10 : IntKind.u64.wrap ((v : Int) - IntKind.u64.wrap ((q' : Int) * (yn1 : Int))) = (r' : Int) := by
    rw [← Int.natCast_mul, wrapNat _ (by omega), show (v : Int) - ((q' * yn1 : Nat) : Int) = (r' : Int) by omega, wrapNat _ (by omega)]
  have F1 := Lib.hid f1
  clear hq hr f1
  -- the end
  obtain ⟨z, hz⟩ : ∃ z, z = (v * 4294967296 + un0) % y := ⟨_, rfl⟩
  rw [← hz]
  have hz0 : v * 4294967296 + un0 = q2 * y + z := by
    have := Nat.div_add_mod (v * 4294967296 + un0) y
    rw [← hq2.out, ← hz, Nat.mul_comm y q2] at this; exact this.symm
  have hzy : z < y := by rw [hz]; exact Nat.mod_lt _ (by omega)
  have hq2B : q2 < 4294967296 := by rw [hq2.out]; exact Pm.digit_lt v un0 y hvy b6
  have t11 : IntKind.u64.wrap (IntKind.u64.wrap (IntKind.u64.wrap ((v : Int) * 4294967296) + (un0 : Int)) - IntKind.u64.wrap ((q2 : Int) * (y : Int))) = (z : Int) := by
    rw [← Int.natCast_mul q2 y]
    generalize q2 * y = m at *
    simp only [IntKind.wrap_u64]
    omega
  clear hz hz0 hv0
  go_enter Try.func97, Try.ntmps97
  go_wp2_with fail
  refine (CLZ _).out.mono ?_
  clear CLZ
  rintro e w' ⟨rfl, rfl⟩
  go_wp2_with fail
  go_loop [15, 16] (fun xq xr => ∃ Q R : Nat, xq = .int .u64 Q ∧ xr = .int .u64 R ∧ R < 4294967296 ∧ Q ≤ 4294967297 ∧ qt ≤ Q ∧ Hid (Q * yn1 + R = u)) (fun xq _ => (intOf xq).toNat)
  case atStart => exact ⟨q, r, rfl, rfl, by omega, by omega, e3, E1⟩
  case round =>
    obtain ⟨Q, R, rfl, rfl, g1, g2, g3, G⟩ := hrel
    have st := Pm.digit_step u yn1 yn0 un1 Q R y hy.out huy b5 G.out
    have ou := Pm.digit_out u yn1 yn0 un1 Q R y hy.out (by omega) b3 G.out (by rw [← hqt.out]; exact g3)
    have ou2 := Pm.digit_out u yn1 yn0 un1 (Q - 1) (R + yn1) y hy.out (by omega) b3
    rw [← hqt.out] at st ou ou2
    obtain ⟨m, hm⟩ : ∃ m, m = Q * yn0 := ⟨_, rfl⟩
    rw [← hm] at st ou
    have hmB : Q < 4294967296 → m < 18446744073709551616 := fun h => by
      rw [hm]; exact Nat.mul_lt_mul'' h b3
    have u1 : Q < 4294967296 → IntKind.u64.wrap ((Q : Int) * (yn0 : Int)) = (m : Int) := fun h => by
      rw [← Int.natCast_mul, ← hm]; exact wrapNat _ (hmB h)
    clear hm
    obtain ⟨mu, hmu⟩ : ∃ mu, mu = 4294967296 * R + un1 := ⟨_, rfl⟩
    rw [← hmu] at st ou
    have bmu : mu < 18446744073709551616 := by omega
    have u2 : 4294967296 * (R : Int) + (un1 : Int) = (mu : Int) := by omega
    clear hmu
    by_cases cA : 4294967296 ≤ Q ∨ mu < m
    · have s1 := st cA
      have hG : Hid ((Q - 1) * yn1 + (R + yn1) = u) := by
        have h1 : Q = (Q - 1) + 1 := by omega
        have h2 := G.out
        rw [h1, Nat.add_mul] at h2
        exact (show (Q - 1) * yn1 + (R + yn1) = u by omega)
      have u3 : (R : Int) + (yn1 : Int) = ((R + yn1 : Nat) : Int) := by omega
      have u4 : (Q : Int) - 1 = ((Q - 1 : Nat) : Int) := by omega
      have k1 : R + yn1 < 18446744073709551616 := by omega
      have k2 : Q - 1 < Q := by omega
      have k3 : Q - 1 ≤ 4294967296 := by omega
      have k4 : qt ≤ Q - 1 := by omega
      generalize R + yn1 = R' at *
      generalize Q - 1 = Q' at *
      by_cases hR : 4294967296 ≤ R'
      · have hRi : decide ((4294967296 : Int) ≤ (R' : Int)) = true := decide_eq_true (by omega)
        obtain rfl : Q' = qt := ou2 hG.out k4 (.inr ⟨k3, hR⟩)
        clear st ou ou2 hG G g3 k3 k4
        by_cases hQ : 4294967296 ≤ Q
        · have hQi : decide ((4294967296 : Int) ≤ (Q : Int)) = true := decide_eq_true (by omega)
          clear u1 u2 hmB cA
          go_wp2_with fail
          go_loop [18, 16] (fun xq xr => ∃ Q R : Nat, xq = .int .u64 Q ∧ xr = .int .u64 R ∧ R < 4294967296 ∧ Q ≤ 4294967297 ∧ q2 ≤ Q ∧ Hid (Q * yn1 + R = v)) (fun xq _ => (intOf xq).toNat)
          case atStart => exact ⟨q', r', rfl, rfl, by omega, by omega, f3, F1⟩
          case round =>
            obtain ⟨Q, R, rfl, rfl, g1, g2, g3, G⟩ := hrel
            have st := Pm.digit_step v yn1 yn0 un0 Q R y hy.out hvy b6 G.out
            have ou := Pm.digit_out v yn1 yn0 un0 Q R y hy.out (by omega) b3 G.out (by rw [← hq2.out]; exact g3)
            have ou2 := Pm.digit_out v yn1 yn0 un0 (Q - 1) (R + yn1) y hy.out (by omega) b3
            rw [← hq2.out] at st ou ou2
            obtain ⟨m, hm⟩ : ∃ m, m = Q * yn0 := ⟨_, rfl⟩
            rw [← hm] at st ou
            have hmB : Q < 4294967296 → m < 18446744073709551616 := fun h => by
              rw [hm]; exact Nat.mul_lt_mul'' h b3
            have u1 : Q < 4294967296 → IntKind.u64.wrap ((Q : Int) * (yn0 : Int)) = (m : Int) := fun h => by
              rw [← Int.natCast_mul, ← hm]; exact wrapNat _ (hmB h)
            clear hm
            obtain ⟨mu, hmu⟩ : ∃ mu, mu = 4294967296 * R + un0 := ⟨_, rfl⟩
            rw [← hmu] at st ou
            have bmu : mu < 18446744073709551616 := by omega
            have u2 : 4294967296 * (R : Int) + (un0 : Int) = (mu : Int) := by omega
            clear hmu
            by_cases cA : 4294967296 ≤ Q ∨ mu < m
            · have s1 := st cA
              have hG : Hid ((Q - 1) * yn1 + (R + yn1) = v) := by
                have h1 : Q = (Q - 1) + 1 := by omega
                have h2 := G.out
                rw [h1, Nat.add_mul] at h2
                exact (show (Q - 1) * yn1 + (R + yn1) = v by omega)
              have u3 : (R : Int) + (yn1 : Int) = ((R + yn1 : Nat) : Int) := by omega
              have u4 : (Q : Int) - 1 = ((Q - 1 : Nat) : Int) := by omega
              have k1 : R + yn1 < 18446744073709551616 := by omega
              have k2 : Q - 1 < Q := by omega
              have k3 : Q - 1 ≤ 4294967296 := by omega
              have k4 : q2 ≤ Q - 1 := by omega
              generalize R + yn1 = R' at *
              generalize Q - 1 = Q' at *
              by_cases hR : 4294967296 ≤ R'
              · have hRi : decide ((4294967296 : Int) ≤ (R' : Int)) = true := decide_eq_true (by omega)
                obtain rfl : Q' = q2 := ou2 hG.out k4 (.inr ⟨k3, hR⟩)
                clear st ou ou2 hG G g3 k3 k4
                by_cases hQ : 4294967296 ≤ Q
                · have hQi : decide ((4294967296 : Int) ≤ (Q : Int)) = true := decide_eq_true (by omega)
                  clear u1 u2 hmB cA
                  go_wp2_with fail
                  go_ret2
                  exact ⟨rfl, rfl⟩
                · have hQi : decide ((4294967296 : Int) ≤ (Q : Int)) = false := decide_eq_false (by omega)
                  have u1' := u1 (by omega)
                  have hmB' := hmB (by omega)
                  have cA' : decide (mu < m) = true := decide_eq_true (by omega)
                  clear u1 hmB cA
                  go_wp2_with fail
                  go_ret2
                  exact ⟨rfl, rfl⟩
              · have hRi : decide ((4294967296 : Int) ≤ (R' : Int)) = false := decide_eq_false (by omega)
                clear st ou ou2 G
                by_cases hQ : 4294967296 ≤ Q
                · have hQi : decide ((4294967296 : Int) ≤ (Q : Int)) = true := decide_eq_true (by omega)
                  clear u1 u2 hmB cA
                  go_wp2_with fail
                  go_round
                  case rel => exact ⟨Q', R', rfl, rfl, by omega, by omega, by omega, hG⟩
                  case measure => simp [intOf]; omega
                · have hQi : decide ((4294967296 : Int) ≤ (Q : Int)) = false := decide_eq_false (by omega)
                  have u1' := u1 (by omega)
                  have hmB' := hmB (by omega)
                  have cA' : decide (mu < m) = true := decide_eq_true (by omega)
                  clear u1 hmB cA
                  go_wp2_with fail
                  go_round
                  case rel => exact ⟨Q', R', rfl, rfl, by omega, by omega, by omega, hG⟩
                  case measure => simp [intOf]; omega
            · have eq0 := ou (.inl (by omega))
              have u1' := u1 (by omega)
              have hmB' := hmB (by omega)
              have cB : m ≤ mu := by omega
              have cC : decide ((4294967296 : Int) ≤ (Q : Int)) = false := decide_eq_false (by omega)
              have cB' : decide (mu < m) = false := decide_eq_false (by omega)
              clear st ou ou2 G u1 hmB cA g3
              obtain rfl : Q = q2 := eq0
              go_wp2_with fail
              go_ret2
              exact ⟨rfl, rfl⟩
        · have hQi : decide ((4294967296 : Int) ≤ (Q : Int)) = false := decide_eq_false (by omega)
          have u1' := u1 (by omega)
          have hmB' := hmB (by omega)
          have cA' : decide (mu < m) = true := decide_eq_true (by omega)
          clear u1 hmB cA
          go_wp2_with fail
          go_loop [18, 16] (fun xq xr => ∃ Q R : Nat, xq = .int .u64 Q ∧ xr = .int .u64 R ∧ R < 4294967296 ∧ Q ≤ 4294967297 ∧ q2 ≤ Q ∧ Hid (Q * yn1 + R = v)) (fun xq _ => (intOf xq).toNat)
          case atStart => exact ⟨q', r', rfl, rfl, by omega, by omega, f3, F1⟩
          case round =>
            obtain ⟨Q, R, rfl, rfl, g1, g2, g3, G⟩ := hrel
            have st := Pm.digit_step v yn1 yn0 un0 Q R y hy.out hvy b6 G.out
            have ou := Pm.digit_out v yn1 yn0 un0 Q R y hy.out (by omega) b3 G.out (by rw [← hq2.out]; exact g3)
            have ou2 := Pm.digit_out v yn1 yn0 un0 (Q - 1) (R + yn1) y hy.out (by omega) b3
            rw [← hq2.out] at st ou ou2
            obtain ⟨m, hm⟩ : ∃ m, m = Q * yn0 := ⟨_, rfl⟩
            rw [← hm] at st ou
            have hmB : Q < 4294967296 → m < 18446744073709551616 := fun h => by
              rw [hm]; exact Nat.mul_lt_mul'' h b3
            have u1 : Q < 4294967296 → IntKind.u64.wrap ((Q : Int) * (yn0 : Int)) = (m : Int) := fun h => by
              rw [← Int.natCast_mul, ← hm]; exact wrapNat _ (hmB h)
            clear hm
            obtain ⟨mu, hmu⟩ : ∃ mu, mu = 4294967296 * R + un0 := ⟨_, rfl⟩
            rw [← hmu] at st ou
            have bmu : mu < 18446744073709551616 := by omega
            have u2 : 4294967296 * (R : Int) + (un0 : Int) = (mu : Int) := by omega
            clear hmu
            by_cases cA : 4294967296 ≤ Q ∨ mu < m
            · have s1 := st cA
              have hG : Hid ((Q - 1) * yn1 + (R + yn1) = v) := by
                have h1 : Q = (Q - 1) + 1 := by omega
                have h2 := G.out
                rw [h1, Nat.add_mul] at h2
                exact (show (Q - 1) * yn1 + (R + yn1) = v by omega)
              have u3 : (R : Int) + (yn1 : Int) = ((R + yn1 : Nat) : Int) := by omega
              have u4 : (Q : Int) - 1 = ((Q - 1 : Nat) : Int) := by omega
              have k1 : R + yn1 < 18446744073709551616 := by omega
              have k2 : Q - 1 < Q := by omega
              have k3 : Q - 1 ≤ 4294967296 := by omega
              have k4 : q2 ≤ Q - 1 := by omega
              generalize R + yn1 = R' at *
              generalize Q - 1 = Q' at *
              by_cases hR : 4294967296 ≤ R'
              · have hRi : decide ((4294967296 : Int) ≤ (R' : Int)) = true := decide_eq_true (by omega)
                obtain rfl : Q' = q2 := ou2 hG.out k4 (.inr ⟨k3, hR⟩)
                clear st ou ou2 hG G g3 k3 k4
                by_cases hQ : 4294967296 ≤ Q
                · have hQi : decide ((4294967296 : Int) ≤ (Q : Int)) = true := decide_eq_true (by omega)
                  clear u1 u2 hmB cA
                  go_wp2_with fail
                  go_ret2
                  exact ⟨rfl, rfl⟩
                · have hQi : decide ((4294967296 : Int) ≤ (Q : Int)) = false := decide_eq_false (by omega)
                  have u1' := u1 (by omega)
                  have hmB' := hmB (by omega)
                  have cA' : decide (mu < m) = true := decide_eq_true (by omega)
                  clear u1 hmB cA
                  go_wp2_with fail
                  go_ret2
                  exact ⟨rfl, rfl⟩
              · have hRi : decide ((4294967296 : Int) ≤ (R' : Int)) = false := decide_eq_false (by omega)
                clear st ou ou2 G
                by_cases hQ : 4294967296 ≤ Q
                · have hQi : decide ((4294967296 : Int) ≤ (Q : Int)) = true := decide_eq_true (by omega)
                  clear u1 u2 hmB cA
                  go_wp2_with fail
                  go_round
                  case rel => exact ⟨Q', R', rfl, rfl, by omega, by omega, by omega, hG⟩
                  case measure => simp [intOf]; omega
                · have hQi : decide ((4294967296 : Int) ≤ (Q : Int)) = false := decide_eq_false (by omega)
                  have u1' := u1 (by omega)
                  have hmB' := hmB (by omega)
                  have cA' : decide (mu < m) = true := decide_eq_true (by omega)
                  clear u1 hmB cA
                  go_wp2_with fail
                  go_round
                  case rel => exact ⟨Q', R', rfl, rfl, by omega, by omega, by omega, hG⟩
                  case measure => simp [intOf]; omega
            · have eq0 := ou (.inl (by omega))
              have u1' := u1 (by omega)
              have hmB' := hmB (by omega)
              have cB : m ≤ mu := by omega
              have cC : decide ((4294967296 : Int) ≤ (Q : Int)) = false := decide_eq_false (by omega)
              have cB' : decide (mu < m) = false := decide_eq_false (by omega)
              clear st ou ou2 G u1 hmB cA g3
              obtain rfl : Q = q2 := eq0
              go_wp2_with fail
              go_ret2
              exact ⟨rfl, rfl⟩
      · have hRi : decide ((4294967296 : Int) ≤ (R' : Int)) = false := decide_eq_false (by omega)
        clear st ou ou2 G
        by_cases hQ : 4294967296 ≤ Q
        · have hQi : decide ((4294967296 : Int) ≤ (Q : Int)) = true := decide_eq_true (by omega)
          clear u1 u2 hmB cA
          go_wp2_with fail
          go_round
          case rel => exact ⟨Q', R', rfl, rfl, by omega, by omega, by omega, hG⟩
          case measure => simp [intOf]; omega
        · have hQi : decide ((4294967296 : Int) ≤ (Q : Int)) = false := decide_eq_false (by omega)
          have u1' := u1 (by omega)
          have hmB' := hmB (by omega)
          have cA' : decide (mu < m) = true := decide_eq_true (by omega)
          clear u1 hmB cA
          go_wp2_with fail
          go_round
          case rel => exact ⟨Q', R', rfl, rfl, by omega, by omega, by omega, hG⟩
          case measure => simp [intOf]; omega
    · have eq0 := ou (.inl (by omega))
      have u1' := u1 (by omega)
      have hmB' := hmB (by omega)
      have cB : m ≤ mu := by omega
      have cC : decide ((4294967296 : Int) ≤ (Q : Int)) = false := decide_eq_false (by omega)
      have cB' : decide (mu < m) = false := decide_eq_false (by omega)
      clear st ou ou2 G u1 hmB cA g3
      obtain rfl : Q = qt := eq0
      go_wp2_with fail
      go_loop [18, 16] (fun xq xr => ∃ Q R : Nat, xq = .int .u64 Q ∧ xr = .int .u64 R ∧ R < 4294967296 ∧ Q ≤ 4294967297 ∧ q2 ≤ Q ∧ Hid (Q * yn1 + R = v)) (fun xq _ => (intOf xq).toNat)
      case atStart => exact ⟨q', r', rfl, rfl, by omega, by omega, f3, F1⟩
      case round =>
        obtain ⟨Q, R, rfl, rfl, g1, g2, g3, G⟩ := hrel
        have st := Pm.digit_step v yn1 yn0 un0 Q R y hy.out hvy b6 G.out
        have ou := Pm.digit_out v yn1 yn0 un0 Q R y hy.out (by omega) b3 G.out (by rw [← hq2.out]; exact g3)
        have ou2 := Pm.digit_out v yn1 yn0 un0 (Q - 1) (R + yn1) y hy.out (by omega) b3
        rw [← hq2.out] at st ou ou2
        obtain ⟨m, hm⟩ : ∃ m, m = Q * yn0 := ⟨_, rfl⟩
        rw [← hm] at st ou
        have hmB : Q < 4294967296 → m < 18446744073709551616 := fun h => by
          rw [hm]; exact Nat.mul_lt_mul'' h b3
        have u1 : Q < 4294967296 → IntKind.u64.wrap ((Q : Int) * (yn0 : Int)) = (m : Int) := fun h => by
          rw [← Int.natCast_mul, ← hm]; exact wrapNat _ (hmB h)
        clear hm
        obtain ⟨mu, hmu⟩ : ∃ mu, mu = 4294967296 * R + un0 := ⟨_, rfl⟩
        rw [← hmu] at st ou
        have bmu : mu < 18446744073709551616 := by omega
        have u2 : 4294967296 * (R : Int) + (un0 : Int) = (mu : Int) := by omega
        clear hmu
        by_cases cA : 4294967296 ≤ Q ∨ mu < m
        · have s1 := st cA
          have hG : Hid ((Q - 1) * yn1 + (R + yn1) = v) := by
            have h1 : Q = (Q - 1) + 1 := by omega
            have h2 := G.out
            rw [h1, Nat.add_mul] at h2
            exact (show (Q - 1) * yn1 + (R + yn1) = v by omega)
          have u3 : (R : Int) + (yn1 : Int) = ((R + yn1 : Nat) : Int) := by omega
          have u4 : (Q : Int) - 1 = ((Q - 1 : Nat) : Int) := by omega
          have k1 : R + yn1 < 18446744073709551616 := by omega
          have k2 : Q - 1 < Q := by omega
          have k3 : Q - 1 ≤ 4294967296 := by omega
          have k4 : q2 ≤ Q - 1 := by omega
          generalize R + yn1 = R' at *
          generalize Q - 1 = Q' at *
          by_cases hR : 4294967296 ≤ R'
          · have hRi : decide ((4294967296 : Int) ≤ (R' : Int)) = true := decide_eq_true (by omega)
            obtain rfl : Q' = q2 := ou2 hG.out k4 (.inr ⟨k3, hR⟩)
            clear st ou ou2 hG G g3 k3 k4
            by_cases hQ : 4294967296 ≤ Q
            · have hQi : decide ((4294967296 : Int) ≤ (Q : Int)) = true := decide_eq_true (by omega)
              clear u1 u2 hmB cA
              go_wp2_with fail
              go_ret2
              exact ⟨rfl, rfl⟩
            · have hQi : decide ((4294967296 : Int) ≤ (Q : Int)) = false := decide_eq_false (by omega)
              have u1' := u1 (by omega)
              have hmB' := hmB (by omega)
              have cA' : decide (mu < m) = true := decide_eq_true (by omega)
              clear u1 hmB cA
              go_wp2_with fail
              go_ret2
              exact ⟨rfl, rfl⟩
          · have hRi : decide ((4294967296 : Int) ≤ (R' : Int)) = false := decide_eq_false (by omega)
            clear st ou ou2 G
            by_cases hQ : 4294967296 ≤ Q
            · have hQi : decide ((4294967296 : Int) ≤ (Q : Int)) = true := decide_eq_true (by omega)
              clear u1 u2 hmB cA
              go_wp2_with fail
              go_round
              case rel => exact ⟨Q', R', rfl, rfl, by omega, by omega, by omega, hG⟩
              case measure => simp [intOf]; omega
            · have hQi : decide ((4294967296 : Int) ≤ (Q : Int)) = false := decide_eq_false (by omega)
              have u1' := u1 (by omega)
              have hmB' := hmB (by omega)
              have cA' : decide (mu < m) = true := decide_eq_true (by omega)
              clear u1 hmB cA
              go_wp2_with fail
              go_round
              case rel => exact ⟨Q', R', rfl, rfl, by omega, by omega, by omega, hG⟩
              case measure => simp [intOf]; omega
        · have eq0 := ou (.inl (by omega))
          have u1' := u1 (by omega)
          have hmB' := hmB (by omega)
          have cB : m ≤ mu := by omega
          have cC : decide ((4294967296 : Int) ≤ (Q : Int)) = false := decide_eq_false (by omega)
          have cB' : decide (mu < m) = false := decide_eq_false (by omega)
          clear st ou ou2 G u1 hmB cA g3
          obtain rfl : Q = q2 := eq0
          go_wp2_with fail
          go_ret2
          exact ⟨rfl, rfl⟩

end Go.Proofs.Ytkemhcokkaanfaa
