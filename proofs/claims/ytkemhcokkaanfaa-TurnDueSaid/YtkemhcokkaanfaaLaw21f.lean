/-
  THE LAWS OF LAYER 21 (percpu), the walks, fifth part: shares; what is due. For every input each returns true. No conditions.
-/
import Derived.Test.YtkemhcokkaanfaaLaw21e
namespace Go.Proofs.Ytkemhcokkaanfaa
open Go.ChangeShapes Go.WideShapes Go.ChangeAt Go.RowKit

namespace turnShares
/-- the load of the first k -/
def loadN (xs : List Nat) : Nat → Nat
  | 0 => 0
  | k + 1 => loadN xs k + 2 + xs.getD k 0
theorem load_pos (xs : List Nat) (k : Nat) (hk : 0 < k) : 2 ≤ loadN xs k := by
  cases k with
  | zero => omega
  | succ k => unfold loadN; omega
theorem load_at (xs : List Nat) (k i : Nat) (hi : i < k) : loadN xs k = 2 + xs.getD i 0 ∨ 2 + xs.getD i 0 + 2 ≤ loadN xs k := by
  induction k with
  | zero => omega
  | succ k ih =>
    unfold loadN
    by_cases h : i = k
    · subst h
      rcases Nat.eq_zero_or_pos i with h0 | h0
      · subst h0; left; unfold loadN; omega
      · right; have := load_pos xs i h0; omega
    · right
      rcases ih (by omega) with h1 | h1 <;> omega
set_option maxRecDepth 100000 in
theorem load_le (xs : List Nat) (hx : ∀ j, j < xs.length → xs.getD j 0 < 65536) (k : Nat) (hk : k ≤ xs.length) : loadN xs k ≤ k * 65537 := by
  induction k with
  | zero => exact Nat.zero_le _
  | succ k ih =>
    have h1 := ih (by omega)
    have h2 := hx k (by omega)
    rw [Nat.succ_mul]
    unfold loadN
    omega
theorem slice_up (lat x ld : Nat) (h : ld = x ∨ x + 2 ≤ ld) : sliceN lat x ld ≤ sliceN lat (x + 1) ld := by
  unfold sliceN
  rcases h with h | h
  · rw [if_pos (by omega), if_pos (by omega)]; exact Nat.le_refl _
  · rw [if_neg (by omega), if_neg (by omega)]
    have : lat * x / ld ≤ lat * (x + 1) / ld := Nat.div_le_div_right (Nat.mul_le_mul_left _ (by omega))
    omega
theorem slice_le (lat x ld : Nat) (h0 : 0 < ld) (h : x ≤ ld) : sliceN lat x ld ≤ lat * x / ld + 1 := by
  unfold sliceN
  split
  · obtain rfl : ld = x := by omega
    rw [Nat.mul_div_cancel _ h0]; omega
  · generalize lat * x / ld = q
    omega
theorem share_step (lat x ld S s i : Nat) (h0 : 0 < ld) (hx : x ≤ ld) (hs : s ≤ lat * S / ld + i) : s + sliceN lat x ld ≤ lat * (S + x) / ld + (i + 1) := by
  have h1 := slice_le lat x ld h0 hx
  have h2 : lat * S / ld + lat * x / ld ≤ lat * (S + x) / ld := by
    rw [Nat.le_div_iff_mul_le h0, Nat.add_mul, Nat.mul_add]
    have := Nat.div_mul_le_self (lat * S) ld
    have := Nat.div_mul_le_self (lat * x) ld
    omega
  omega
theorem share_in (lat S ld : Nat) (h : S ≤ ld) : lat * S / ld ≤ lat := by
  exact Nat.div_le_of_le_mul (by rw [Nat.mul_comm ld lat]; exact Nat.mul_le_mul_left _ h)
theorem load_mono (xs : List Nat) (i k : Nat) (h : i ≤ k) : loadN xs i ≤ loadN xs k := by
  induction k with
  | zero => obtain rfl : i = 0 := by omega
            exact Nat.le_refl _
  | succ k ih =>
    by_cases e : i = k + 1
    · rw [e]; exact Nat.le_refl _
    · have := ih (by omega)
      conv => rhs; unfold loadN
      omega

set_option maxRecDepth 100000 in
set_option maxHeartbeats 4000000 in
theorem walk (lat : Nat) (A : Option Addr) (xs : List Nat) (c : Nat) (hl : lat < 4294967296) (w : World) (hA : NumsAt .u16 w w.heap.size A xs) (hX : ∀ j, j < xs.length → xs.getD j 0 < 65536) (hn : xs.length ≤ 9223372036854775807) :
    Calls Try.prog 6 #[.int .u32 lat, .slice A xs.length c] w fun e w' => e = .returned (.bool true) ∧ Below w.heap.size w w' := by
  obtain ⟨n, hnx⟩ : ∃ n, n = xs.length := ⟨_, rfl⟩
  rw [← hnx]
  rw [← hnx] at hn
  have HL := Lib.hid hnx
  have HX := Lib.hid hX
  have HLE := Lib.hid fun k (hk : k ≤ n) => load_le xs hX k (by rw [← hnx]; exact hk)
  clear hnx hX
  go_enter Try.func6, Try.ntmps6
  go_wp2_with fail
  refine (awake21 _).mono ?_
  rintro e w1 ⟨rfl, hb1⟩
  have hA1 : NumsAt .u16 w1 w.heap.size A xs := by
    rcases hA with h | ⟨b, off, e, hB, hc⟩
    · exact .inl h
    · exact .inr ⟨b, off, e, hB, fun j hj => (hb1.cell (p := ⟨b, off + j, none⟩) hB).trans (hc j hj)⟩
  clear hA
  go_wp2_with fail
  go_loop [6, 7] (fun s6 s7 => ∃ k ld : Nat, k ≤ n ∧ k ≤ 100 ∧ s7 = .int .i64 k ∧ s6 = .int .u64 ld ∧ Hid (ld = loadN xs k)) (fun _ s7 => n - (intOf s7).toNat)
  case atStart => exact ⟨0, 0, by omega, by omega, rfl, rfl, rfl⟩
  case round =>
    obtain ⟨k, ld, hk, hk100, rfl, rfl, HD⟩ := hrel
    by_cases hgo : k < n ∧ k < 100
    · obtain ⟨hlt, h100⟩ := hgo
      have z1 : decide ((k : Int) < (n : Int)) = true := decide_eq_true (by omega)
      have z2 : decide (k < n) = true := decide_eq_true hlt
      have z3 : decide ((k : Int) < 100) = true := decide_eq_true (by omega)
      have z4 : decide (k < 100) = true := decide_eq_true h100
      have hkx : k < xs.length := by rw [← HL.out]; exact hlt
      obtain ⟨b, off, rfl, hbB, hc⟩ := hA1.at_ (by omega)
      have hcell := hc k hkx
      have hx1 := HX.out k hkx
      have hle := HLE.out k (by omega)
      rw [← HD.out] at hle
      obtain ⟨l2, hl2⟩ : ∃ l2, l2 = ld + 2 + xs.getD k 0 := ⟨_, rfl⟩
      have e2 : (ld : Int) + 2 + ((xs.getD k 0 : Nat) : Int) = (l2 : Int) := by omega
      have HD2 : Hid (l2 = loadN xs (k + 1)) := Lib.hid (by rw [hl2, HD.out]; rfl)
      have l2b : l2 < 18446744073709551616 := by omega
      have ldb : ld ≤ 6553700 := by omega
      have i0 : (0 : Int) ≤ (k : Int) := Int.natCast_nonneg _
      have i1 : (k : Int) < (n : Int) := by omega
      clear hc hl2 hle
      generalize xs.getD k 0 = x at *
      go_wp2_with fail
      go_round
      case rel => exact ⟨k + 1, l2, by omega, by omega, by go_num, rfl, HD2⟩
      case measure => simp [intOf]; omega
    · have hex : (decide ((k : Int) < (n : Int)) = true ∧ decide (k < n) = true ∧ decide ((k : Int) < 100) = false ∧ decide (k < 100) = false) ∨ (decide ((k : Int) < (n : Int)) = false ∧ decide (k < n) = false) := by
        by_cases hlt : k < n
        · left; exact ⟨decide_eq_true (by omega), decide_eq_true hlt, decide_eq_false (by omega), decide_eq_false (by omega)⟩
        · right; exact ⟨decide_eq_false (by omega), decide_eq_false hlt⟩
      have hle := HLE.out k hk
      rw [← HD.out] at hle
      have ldb : ld ≤ 6553700 := by omega
      clear hgo hle HLE
      rcases hex with ⟨z1, z2, z3, z4⟩ | ⟨z1, z2⟩
      all_goals
        go_wp2_with fail
        go_loopw [8, 9] (fun s8 s9 wr => ∃ i s : Nat, i ≤ k ∧ s9 = .int .i64 i ∧ s8 = .int .u64 s ∧ Hid (s ≤ lat * loadN xs i / ld + i) ∧ Below w.heap.size w wr) (fun _ s9 _ => k - (intOf s9).toNat)
        case atStart => exact ⟨0, 0, by omega, rfl, rfl, Nat.zero_le _, hb1⟩
        case round =>
          obtain ⟨i, s, hik, rfl, rfl, HS, hB⟩ := hrel
          have hzr := hB.size
          by_cases hi : i < k
          · have y1 : decide ((i : Int) < (k : Int)) = true := decide_eq_true (by omega)
            have y2 : decide (i < k) = true := decide_eq_true hi
            have hix : i < xs.length := by rw [← HL.out]; omega
            have hx1 := HX.out i hix
            have hlp := load_pos xs k (by omega)
            have hat := load_at xs k i hi
            have hmo := load_mono xs (i + 1) k (by omega)
            rw [← HD.out] at hlp hat hmo
            have st := share_step lat (2 + xs.getD i 0) ld (loadN xs i) s i (by omega) (by omega) HS.out
            rw [show loadN xs i + (2 + xs.getD i 0) = loadN xs (i + 1) from (Nat.add_assoc _ _ _).symm] at st
            have sti := share_in lat (loadN xs (i + 1)) ld hmo
            have up := slice_up lat (2 + xs.getD i 0) ld hat
            obtain ⟨b, off, rfl, hbB, hc⟩ := hA1.at_ (by omega)
            have hc1 := hc i hix
            have hcell := (hB.cell (p := ⟨b, off + i, none⟩) hbB).trans (((hb1.cell (p := ⟨b, off + i, none⟩) hbB).symm.trans hc1))
            obtain ⟨x, hx⟩ : ∃ x, x = 2 + xs.getD i 0 := ⟨_, rfl⟩
            have ex : (2 : Int) + ((xs.getD i 0 : Nat) : Int) = (x : Int) := by omega
            rw [← hx] at st up
            have M1 := Lib.hid fun W => slice_any lat x ld (by omega) (by omega) (by omega) W
            have M2 := Lib.hid fun W => slice_any lat (x + 1) ld (by omega) (by omega) (by omega) W
            have xb : x ≤ 65537 := by omega
            generalize sliceN lat x ld = v1 at *
            generalize sliceN lat (x + 1) ld = v2 at *
            obtain ⟨x2, hx2⟩ : ∃ x2, x2 = x + 1 := ⟨_, rfl⟩
            have ex2 : (x : Int) + 1 = (x2 : Int) := by omega
            rw [← hx2] at M2
            have HS2 : Hid (s + v1 ≤ lat * loadN xs (i + 1) / ld + (i + 1)) := Lib.hid st
            have q1 : decide (v2 < v1) = false := decide_eq_false (by omega)
            have sb : s + v1 ≤ 4294967400 := by omega
            have i0 : (0 : Int) ≤ (i : Int) := Int.natCast_nonneg _
            have i1 : (i : Int) < (n : Int) := by omega
            clear hc hc1 hx hx2 st sti up hat hmo hlp HS hA1
            generalize xs.getD i 0 = y at *
            go_wp2_with fail
            refine (M1.out _).mono ?_
            rintro e w2 ⟨rfl, hb2⟩
            have hz2 := hb2.size
            have hB2 := hB.trans (hb2.mono hzr)
            go_wp2_with fail
            refine (M2.out _).mono ?_
            rintro e w3 ⟨rfl, hb3⟩
            have hB3 := hB2.trans (hb3.mono (by omega))
            clear hB hB2 hb2 hb3 M1 M2
            go_wp2_with fail
            go_roundw
            case rel => exact ⟨i + 1, s + v1, by omega, by go_num, by go_num, HS2, hB3⟩
            case measure => simp [intOf]; omega
          · obtain rfl : i = k := by omega
            have y1 : decide ((i : Int) < (i : Int)) = false := decide_eq_false (by omega)
            have y2 : decide (i < i) = false := decide_eq_false (by omega)
            have fin := HS.out
            have sin := share_in lat (loadN xs i) ld (by rw [HD.out]; exact Nat.le_refl _)
            have q1 : decide ((s : Int) ≤ (lat : Int) + (i : Int)) = true := decide_eq_true (by omega)
            have q2 : decide (s ≤ lat + i) = true := decide_eq_true (by omega)
            clear fin sin HS
            go_wp2_with fail
            go_ret
            exact ⟨rfl, hB⟩
end turnShares

end Go.Proofs.Ytkemhcokkaanfaa
