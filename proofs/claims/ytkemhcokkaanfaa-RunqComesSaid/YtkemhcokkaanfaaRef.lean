/-
  doleref02: bit, MulDiv, Up, Compare.
-/
import Derived.Test.YtkemhcokkaanfaaUp
namespace Go.Proofs.Ytkemhcokkaanfaa
open Go.RowKit

theorem ret_int {k : IntKind} {a b : Int} (h : a = b) : Ending.returned (.int k a) = .returned (.int k b) := by rw [h]
def bitAt (x j : Nat) : Nat := x / 2 ^ (63 - j) % 2
theorem bitAt_lt (x j : Nat) : bitAt x j < 2 := Nat.mod_lt _ (by omega)

set_option maxHeartbeats 400000 in
theorem halve_any (x j : Nat) (hx : x < 18446744073709551616) (hj : j ≤ 63) (a b : Nat) (i : Nat) (h : (i = j ∧ x = a) ∨ (i = j + 64 ∧ x = b)) (w : World) :
    Calls Try.prog 139 #[.int .u64 a, .int .u64 b, .int .i64 i] w fun e w' => e = .returned (.int .u64 (bitAt x j : Nat)) ∧ w = w' := by
  rcases h with ⟨rfl, rfl⟩ | ⟨rfl, rfl⟩
  · have t1 : decide ((64 : Int) ≤ (i : Int)) = false := decide_eq_false (by omega)
    go_enter Try.func139, Try.ntmps139
    go_wp2_with fail
    go_loop [2, 7] (fun s2 s7 => ∃ k y : Nat, k ≤ 63 ∧ y < 18446744073709551616 ∧ s2 = .int .i64 k ∧ s7 = .int .u64 y ∧ Hid (y / 2 ^ (63 - k) % 2 = bitAt x i)) (fun s2 _ => 63 - (intOf s2).toNat)
    case atStart => exact ⟨i, x, hj, hx, rfl, rfl, rfl⟩
    case round =>
      obtain ⟨k, y, hk, hy, rfl, rfl, H⟩ := hrel
      by_cases hlt : k < 63
      · have hn : Hid ((y / 2) / 2 ^ (63 - (k + 1)) % 2 = bitAt x i) := by
          have h1 := H.out
          rw [show 63 - k = 63 - (k + 1) + 1 by omega, Nat.pow_succ', ← Nat.div_div_eq_div_mul] at h1
          exact h1
        go_wp2_with fail
        go_round
        case rel => exact ⟨k + 1, y / 2, by omega, by omega, by go_num, by go_num, hn⟩
        case measure => simp [intOf]; omega
      · obtain rfl : k = 63 := by omega
        have h1 := H.out
        have h2 : y % 2 = bitAt x i := by simpa using h1
        have H2 := Lib.hid h2
        clear h1 h2 hlt
        go_wp2_with fail
        go_ret
        exact ⟨ret_int (by rw [← H2.out]; omega), rfl⟩
  · have t1 : decide ((64 : Int) ≤ (((j + 64 : Nat)) : Int)) = true := decide_eq_true (by omega)
    have t2 : (64 : Int) ≤ (((j + 64 : Nat)) : Int) := by omega
    go_enter Try.func139, Try.ntmps139
    go_wp2_with fail
    go_loop [2, 7] (fun s2 s7 => ∃ k y : Nat, k ≤ 63 ∧ y < 18446744073709551616 ∧ s2 = .int .i64 k ∧ s7 = .int .u64 y ∧ Hid (y / 2 ^ (63 - k) % 2 = bitAt x j)) (fun s2 _ => 63 - (intOf s2).toNat)
    case atStart => exact ⟨j, x, hj, hx, by go_num, rfl, rfl⟩
    case round =>
      obtain ⟨k, y, hk, hy, rfl, rfl, H⟩ := hrel
      by_cases hlt : k < 63
      · have hn : Hid ((y / 2) / 2 ^ (63 - (k + 1)) % 2 = bitAt x j) := by
          have h1 := H.out
          rw [show 63 - k = 63 - (k + 1) + 1 by omega, Nat.pow_succ', ← Nat.div_div_eq_div_mul] at h1
          exact h1
        go_wp2_with fail
        go_round
        case rel => exact ⟨k + 1, y / 2, by omega, by omega, by go_num, by go_num, hn⟩
        case measure => simp [intOf]; omega
      · obtain rfl : k = 63 := by omega
        have h1 := H.out
        have h2 : y % 2 = bitAt x j := by simpa using h1
        have H2 := Lib.hid h2
        clear h1 h2 hlt
        go_wp2_with fail
        go_ret
        exact ⟨ret_int (by rw [← H2.out]; omega), rfl⟩

/-- the i-th bit of a product's two words -/
def bitN (n i : Nat) : Nat := n / 2 ^ (127 - i) % 2
theorem bitN_lt (n i : Nat) : bitN n i < 2 := Nat.mod_lt _ (by omega)
theorem bit_any (h l i : Nat) (hh : h < 18446744073709551616) (hl : l < 18446744073709551616) (hi : i < 128) (w : World) :
    Calls Try.prog 139 #[.int .u64 h, .int .u64 l, .int .i64 i] w fun e w' => e = .returned (.int .u64 (bitN (h * 18446744073709551616 + l) i : Nat)) ∧ w = w' := by
  by_cases c : i < 64
  · rw [show bitN (h * 18446744073709551616 + l) i = bitAt h i from Pm.bit_hi h l i hl c]
    exact halve_any h i hh (by omega) h l i (.inl ⟨rfl, rfl⟩) w
  · rw [show bitN (h * 18446744073709551616 + l) i = bitAt l (i - 64) from Pm.bit_lo h l i (by omega) hi]
    exact halve_any l (i - 64) hl (by omega) h l i (.inr ⟨by omega, rfl⟩) w

set_option maxRecDepth 100000 in
set_option maxHeartbeats 2000000 in
theorem refMulDiv_any (a b c : Nat) (ha : a < 18446744073709551616) (hb : b < 18446744073709551616) (hc : c < 18446744073709551616) (w : World) :
    Calls Try.prog 106 #[.int .u64 a, .int .u64 b, .int .u64 c] w fun e w' =>
      e = .returned (.tuple #[.int .u64 (mdQ a b c : Nat), .int .u64 (mdR a b c : Nat), .bool (mdOk a b c)]) ∧ w = w' := by
  rcases Nat.eq_zero_or_pos c with rfl | hc0
  · have e1 : mdQ a b 0 = 0 := by simp [mdQ]
    have e2 : mdR a b 0 = 0 := by simp [mdR]
    have e3 : mdOk a b 0 = false := by simp [mdOk]
    rw [e1, e2, e3]
    clear e1 e2 e3
    go_enter Try.func106, Try.ntmps106
    go_wp2_with fail
    go_ret3
    exact ⟨rfl, rfl⟩
  · have c0 : ((c : Int) == 0) = false := by simp; omega
    have pr := product_any a b ha hb w
    have bi := fun i hi => bit_any (hi64 a b) (lo64 a b) i (hi64_lt a b ha hb) (lo64_lt a b) hi w
    rw [hi_lo] at bi
    obtain ⟨n, hn⟩ : ∃ n, n = a * b := ⟨_, rfl⟩
    have F1 : Hid (n < c * 18446744073709551616 → mdOk a b c = true ∧ mdQ a b c = n / c ∧ mdR a b c = n % c) := fun h => by
      subst hn; exact ⟨decide_eq_true h, if_pos h, if_pos h⟩
    have F2 : Hid (c * 18446744073709551616 ≤ n → mdOk a b c = false ∧ mdQ a b c = 0 ∧ mdR a b c = 0) := fun h => by
      subst hn; exact ⟨decide_eq_false (by omega), if_neg (by omega), if_neg (by omega)⟩
    rw [← hn] at bi
    have hbig : n < 340282366920938463463374607431768211456 := by rw [hn]; exact Nat.mul_lt_mul'' ha hb
    clear hn
    generalize mdOk a b c = vo at *
    generalize mdQ a b c = vq at *
    generalize mdR a b c = vr at *
    generalize hi64 a b = h at *
    generalize lo64 a b = l at *
    have PR := Lib.hid pr
    have BI := Lib.hid bi
    clear pr bi
    go_enter Try.func106, Try.ntmps106
    go_wp2_with fail
    refine PR.out.mono ?_
    rintro e w1 ⟨rfl, rfl⟩
    clear PR
    go_wp2_with fail
    go_loop [11, 12, 13] (fun s11 s12 s13 => ∃ k q r : Nat, k ≤ 128 ∧ q < 18446744073709551616 ∧ r < c ∧ s11 = .int .u64 q ∧ s12 = .int .u64 r ∧ s13 = .int .i64 k ∧ Hid (q = n / 2 ^ (128 - k) / c ∧ r = n / 2 ^ (128 - k) % c)) (fun _ _ s13 => 128 - (intOf s13).toNat)
    case atStart =>
      have h0 : n / 2 ^ (128 - 0) = 0 := Nat.div_eq_of_lt (by simpa using hbig)
      exact ⟨0, 0, 0, by omega, by omega, hc0, rfl, rfl, rfl, by rw [h0]; simp, by rw [h0]; simp⟩
    case round =>
      obtain ⟨k, q, r, hk, hq, hr, rfl, rfl, rfl, H⟩ := hrel
      by_cases hlt : k < 128
      · have hbi := Lib.hid (BI.out k hlt)
        clear BI
        have bl := bitN_lt n k
        have st := Pm.div_step (n / 2 ^ (128 - k)) c (bitN n k) hc0 bl
        have hM : n / 2 ^ (128 - (k + 1)) = 2 * (n / 2 ^ (128 - k)) + bitN n k := by
          have := Pm.halve_step n (127 - k)
          rw [show 127 - k + 1 = 128 - k by omega] at this
          rw [show 128 - (k + 1) = 127 - k by omega]
          exact this
        have tg := Pm.too_great n c (128 - k) q (by omega) H.out.1
        rw [← hM, ← H.out.1, ← H.out.2] at st
        obtain ⟨st1, st2⟩ := st
        generalize bitN n k = bt at *
        clear hM
        have STa := Lib.hid st1
        have STb := Lib.hid st2
        have TG := Lib.hid tg
        clear st1 st2 tg
        have two : IntKind.u64.wrap (IntKind.u64.wrap (2 * (r : Int)) + (bt : Int)) = (((2 * r + bt) % 18446744073709551616 : Nat) : Int) := by
          simp only [IntKind.wrap_u64]; omega
        have nx : k + 1 ≤ 128 := hlt
        have z0 : decide ((k : Int) < 128) = true := decide_eq_true (by omega)
        obtain ⟨T, hT⟩ : ∃ T, T = (2 * r + bt) % 18446744073709551616 := ⟨_, rfl⟩
        rw [← hT] at two
        have Tlt : T < 18446744073709551616 := by rw [hT]; exact Nat.mod_lt _ (by omega)
        have u : ∀ r' : Nat, r' < c → (c ≤ 2 * r + bt → r' = 2 * r + bt - c) → (2 * r + bt < c → r' = 2 * r + bt) → (q < 9223372036854775808) → ∀ q' : Nat, (c ≤ 2 * r + bt → q' = 2 * q + 1) → (2 * r + bt < c → q' = 2 * q) →
            Hid (q' = n / 2 ^ (128 - (k + 1)) / c ∧ r' = n / 2 ^ (128 - (k + 1)) % c) := by
          intro r' _ h1 h2 _ q' h3 h4
          by_cases cc : c ≤ 2 * r + bt
          · rw [h1 cc, h3 cc]; exact ⟨(STa.out cc).1.symm, (STa.out cc).2.symm⟩
          · rw [h2 (by omega), h4 (by omega)]; exact ⟨(STb.out (by omega)).1.symm, (STb.out (by omega)).2.symm⟩
        clear STa STb
        have w1 : ∀ q' : Nat, q < 9223372036854775808 → IntKind.u64.wrap (IntKind.u64.wrap (2 * (q : Int)) + 1) = ((2 * q + 1 : Nat) : Int) := fun _ h => by simp only [IntKind.wrap_u64]; omega
        by_cases h1 : 9223372036854775808 ≤ r
        · by_cases big : 9223372036854775808 ≤ q
          · have ov : decide ((9223372036854775808 : Int) ≤ (r : Int)) = true := decide_eq_true (by omega)
            have sb : IntKind.u64.wrap ((T : Int) - (c : Int)) = ((2 * r + bt - c : Nat) : Int) := by rw [IntKind.wrap_u64]; omega
            obtain ⟨rfl, rfl, rfl⟩ := F2.out (TG.out big)
            have b1 : decide ((9223372036854775808 : Int) ≤ (q : Int)) = true := decide_eq_true (by omega)
            clear u F1 F2 TG H hT w1 hq
            go_wp2_with (go_at_call 139; refine hbi.out.mono ?_; rintro e w' ⟨rfl, rfl⟩)
            go_ret3
            exact ⟨rfl, rfl⟩
          · have ov : decide ((9223372036854775808 : Int) ≤ (r : Int)) = true := decide_eq_true (by omega)
            have sb : IntKind.u64.wrap ((T : Int) - (c : Int)) = ((2 * r + bt - c : Nat) : Int) := by rw [IntKind.wrap_u64]; omega
            have b1 : decide ((9223372036854775808 : Int) ≤ (q : Int)) = false := decide_eq_false (by omega)
            have hu := u (2 * r + bt - c) (by omega) (by omega) (by omega) (by omega) (2 * q + 1) (by omega) (by omega)
            have hq2 : 2 * q + 1 < 18446744073709551616 := by omega
            have hr2 : 2 * r + bt - c < c := by omega
            clear u F1 F2 TG H hT w1
            go_wp2_with (go_at_call 139; refine hbi.out.mono ?_; rintro e w' ⟨rfl, rfl⟩)
            go_round
            case rel => exact ⟨k + 1, 2 * q + 1, 2 * r + bt - c, nx, hq2, hr2, by go_num, by go_num, by go_num, hu⟩
            case measure => simp [intOf]; omega
        · by_cases h2 : c ≤ 2 * r + bt
          · by_cases big : 9223372036854775808 ≤ q
            · have ov : decide ((9223372036854775808 : Int) ≤ (r : Int)) = false := decide_eq_false (by omega)
              have ge : decide ((c : Int) ≤ (T : Int)) = true := decide_eq_true (by omega)
              have ge2 : decide (c ≤ T) = true := decide_eq_true (by omega)
              have sb : IntKind.u64.wrap ((T : Int) - (c : Int)) = ((2 * r + bt - c : Nat) : Int) := by rw [IntKind.wrap_u64]; omega
              obtain ⟨rfl, rfl, rfl⟩ := F2.out (TG.out big)
              have b1 : decide ((9223372036854775808 : Int) ≤ (q : Int)) = true := decide_eq_true (by omega)
              clear u F1 F2 TG H hT w1 hq
              go_wp2_with (go_at_call 139; refine hbi.out.mono ?_; rintro e w' ⟨rfl, rfl⟩)
              go_ret3
              exact ⟨rfl, rfl⟩
            · have ov : decide ((9223372036854775808 : Int) ≤ (r : Int)) = false := decide_eq_false (by omega)
              have ge : decide ((c : Int) ≤ (T : Int)) = true := decide_eq_true (by omega)
              have ge2 : decide (c ≤ T) = true := decide_eq_true (by omega)
              have sb : IntKind.u64.wrap ((T : Int) - (c : Int)) = ((2 * r + bt - c : Nat) : Int) := by rw [IntKind.wrap_u64]; omega
              have b1 : decide ((9223372036854775808 : Int) ≤ (q : Int)) = false := decide_eq_false (by omega)
              have hu := u (2 * r + bt - c) (by omega) (by omega) (by omega) (by omega) (2 * q + 1) (by omega) (by omega)
              have hq2 : 2 * q + 1 < 18446744073709551616 := by omega
              have hr2 : 2 * r + bt - c < c := by omega
              clear u F1 F2 TG H hT w1
              go_wp2_with (go_at_call 139; refine hbi.out.mono ?_; rintro e w' ⟨rfl, rfl⟩)
              go_round
              case rel => exact ⟨k + 1, 2 * q + 1, 2 * r + bt - c, nx, hq2, hr2, by go_num, by go_num, by go_num, hu⟩
              case measure => simp [intOf]; omega
          · by_cases big : 9223372036854775808 ≤ q
            · have ov : decide ((9223372036854775808 : Int) ≤ (r : Int)) = false := decide_eq_false (by omega)
              obtain rfl : T = 2 * r + bt := by omega
              have ge : decide ((c : Int) ≤ ((2 * r + bt : Nat) : Int)) = false := decide_eq_false (by omega)
              have ge2 : decide (c ≤ 2 * r + bt) = false := decide_eq_false (by omega)
              obtain ⟨rfl, rfl, rfl⟩ := F2.out (TG.out big)
              have b1 : decide ((9223372036854775808 : Int) ≤ (q : Int)) = true := decide_eq_true (by omega)
              clear u F1 F2 TG H hT w1 hq
              go_wp2_with (go_at_call 139; refine hbi.out.mono ?_; rintro e w' ⟨rfl, rfl⟩)
              go_ret3
              exact ⟨rfl, rfl⟩
            · have ov : decide ((9223372036854775808 : Int) ≤ (r : Int)) = false := decide_eq_false (by omega)
              obtain rfl : T = 2 * r + bt := by omega
              have ge : decide ((c : Int) ≤ ((2 * r + bt : Nat) : Int)) = false := decide_eq_false (by omega)
              have ge2 : decide (c ≤ 2 * r + bt) = false := decide_eq_false (by omega)
              have b1 : decide ((9223372036854775808 : Int) ≤ (q : Int)) = false := decide_eq_false (by omega)
              have hu := u (2 * r + bt) (by omega) (by omega) (by omega) (by omega) (2 * q + 0) (by omega) (by omega)
              have hq2 : 2 * q + 0 < 18446744073709551616 := by omega
              have hr2 : 2 * r + bt < c := by omega
              clear u F1 F2 TG H hT w1
              go_wp2_with (go_at_call 139; refine hbi.out.mono ?_; rintro e w' ⟨rfl, rfl⟩)
              go_round
              case rel => exact ⟨k + 1, 2 * q + 0, 2 * r + bt, nx, hq2, hr2, by go_num, by go_num, by go_num, hu⟩
              case measure => simp [intOf]; omega
      · obtain rfl : k = 128 := by omega
        have h1 := H.out
        simp only [Nat.sub_self, Nat.pow_zero, Nat.div_one] at h1
        have hlt : n < c * 18446744073709551616 := by
          rw [h1.1, Nat.div_lt_iff_lt_mul hc0, Nat.mul_comm] at hq; exact hq
        obtain ⟨rfl, e2, e3⟩ := F1.out hlt
        rw [← h1.1] at e2
        rw [← h1.2] at e3
        subst e2 e3
        have z0 : decide (((128 : Nat) : Int) < 128) = false := decide_eq_false (by omega)
        clear hlt BI H h1 F1 F2
        go_wp2_with fail
        go_ret3
        exact ⟨rfl, rfl⟩

end Go.Proofs.Ytkemhcokkaanfaa
