/-
  fix.Add, Sat, Hold; doleref01.Add, Sat, Hold: sums held to the ends.
-/
import Derived.Test.YtkemhcokkaanfaaHeap
import Derived.Test.YtkemhcokkaanfaaBound
import Derived.Laws.BitsAllLaws
import Derived.Laws.BitsLemmas
namespace Go.Proofs.Ytkemhcokkaanfaa
open Go.RowKit

theorem wrap_toNat (v : BitVec 64) : IntKind.i64.wrap ((v.toNat : Nat) : Int) = v.toInt := by
  rw [IntKind.wrap_i64, BitVec.toInt_eq_toNat_bmod, Int.bmod_def]
  have := v.isLt
  split <;> omega
theorem bits_toInt (op : BinOp) (x y : BitVec 64) (z : BitVec 64) (h : bits op .i64 x.toInt y.toInt = IntKind.i64.wrap ((z.toNat : Nat) : Int)) : bits op .i64 x.toInt y.toInt = z.toInt := by rw [h, wrap_toNat]
theorem ofInt_toInt (a : Int) (h1 : -9223372036854775808 ≤ a) (h2 : a ≤ 9223372036854775807) : (BitVec.ofInt 64 a).toInt = a := by
  rw [BitVec.toInt_ofInt, Int.bmod_def]
  omega
theorem bits_xor (x y : Int) : bits .xor .i64 x y = (BitVec.ofInt 64 x ^^^ BitVec.ofInt 64 y).toInt := by
  show IntKind.i64.wrap ((BitVec.ofInt 64 x ^^^ BitVec.ofInt 64 y).toNat : Int) = _
  rw [wrap_toNat]
theorem bits_and (x y : Int) : bits .and .i64 x y = (BitVec.ofInt 64 x &&& BitVec.ofInt 64 y).toInt := by
  show IntKind.i64.wrap ((BitVec.ofInt 64 x &&& BitVec.ofInt 64 y).toNat : Int) = _
  rw [wrap_toNat]
theorem msb_ofInt (a : Int) (h1 : -9223372036854775808 ≤ a) (h2 : a ≤ 9223372036854775807) : (BitVec.ofInt 64 a).msb = decide (a < 0) := by
  rw [BitVec.msb_eq_toInt, ofInt_toInt a h1 h2]
/-- the signs of a and of b differ both from that of n -/
theorem signs (a b n : Int) (ha1 : -9223372036854775808 ≤ a) (ha2 : a ≤ 9223372036854775807) (hb1 : -9223372036854775808 ≤ b) (hb2 : b ≤ 9223372036854775807) (hn1 : -9223372036854775808 ≤ n) (hn2 : n ≤ 9223372036854775807) :
    decide (bits .and .i64 (bits .xor .i64 a n) (bits .xor .i64 b n) < 0) = ((decide (a < 0) != decide (n < 0)) && (decide (b < 0) != decide (n < 0))) := by
  rw [bits_xor, bits_xor, bits_and]
  rw [BitVec.ofInt_toInt, BitVec.ofInt_toInt, ← BitVec.msb_eq_toInt]
  rw [BitVec.msb_and, BitVec.msb_xor, BitVec.msb_xor, msb_ofInt a ha1 ha2, msb_ofInt b hb1 hb2, msb_ofInt n hn1 hn2]

/-- a sum, held to the ends -/
def satZ (a b : Int) : Int := if 9223372036854775807 < a + b then 9223372036854775807 else if a + b < -9223372036854775808 then -9223372036854775808 else a + b
def overZ (a b : Int) : Bool := decide (9223372036854775807 < a + b ∨ a + b < -9223372036854775808)
theorem satZ_in (a b : Int) (h1 : -9223372036854775808 ≤ a + b) (h2 : a + b ≤ 9223372036854775807) : satZ a b = a + b := by
  unfold satZ; rw [if_neg (by omega), if_neg (by omega)]
theorem satZ_lo (a b : Int) : -9223372036854775808 ≤ satZ a b := by unfold satZ; split <;> (try split) <;> omega
theorem satZ_hi (a b : Int) : satZ a b ≤ 9223372036854775807 := by unfold satZ; split <;> (try split) <;> omega

set_option maxRecDepth 100000 in
theorem fadd_yes (a b : Int) (ha1 : -9223372036854775808 ≤ a) (ha2 : a ≤ 9223372036854775807) (hb1 : -9223372036854775808 ≤ b) (hb2 : b ≤ 9223372036854775807) (h1 : -9223372036854775808 ≤ a + b) (h2 : a + b ≤ 9223372036854775807) (w : World) :
    Calls Try.prog 90 #[.int .i64 a, .int .i64 b] w fun e w' => e = .returned (.tuple #[.int .i64 (a + b), .bool true]) ∧ w = w' := by
  obtain ⟨n, hn⟩ : ∃ n, n = a + b := ⟨_, rfl⟩
  have e1 : a + b = n := hn.symm
  have sg := signs a b n ha1 ha2 hb1 hb2 (by omega) (by omega)
  have sf : decide (bits .and .i64 (bits .xor .i64 a n) (bits .xor .i64 b n) < 0) = false := by
    rw [sg]
    by_cases p : a < 0 <;> by_cases q : b < 0 <;> by_cases r : n < 0 <;> simp [p, q, r] <;> omega
  rw [e1]
  clear sg hn
  go_enter Try.func90, Try.ntmps90
  go_wp2_with fail
  go_ret2
  exact ⟨rfl, rfl⟩

set_option maxRecDepth 100000 in
theorem fadd_no (a b : Int) (ha1 : -9223372036854775808 ≤ a) (ha2 : a ≤ 9223372036854775807) (hb1 : -9223372036854775808 ≤ b) (hb2 : b ≤ 9223372036854775807) (h : a + b < -9223372036854775808 ∨ 9223372036854775807 < a + b) (w : World) :
    Calls Try.prog 90 #[.int .i64 a, .int .i64 b] w fun e w' => e = .returned (.tuple #[.int .i64 0, .bool false]) ∧ w = w' := by
  obtain ⟨n, hn⟩ : ∃ n, n = IntKind.i64.wrap (a + b) := ⟨_, rfl⟩
  have e1 : IntKind.i64.wrap (a + b) = n := hn.symm
  have e2 : wrap64 (a + b) = n := by rw [← e1]; exact (IntWalk.i64_left _).symm
  rw [IntKind.wrap_i64] at hn
  have sg := signs a b n ha1 ha2 hb1 hb2 (by omega) (by omega)
  have sf : decide (bits .and .i64 (bits .xor .i64 a n) (bits .xor .i64 b n) < 0) = true := by
    rw [sg]
    by_cases p : a < 0 <;> by_cases q : b < 0 <;> by_cases r : n < 0 <;> simp [p, q, r] <;> omega
  clear sg hn h
  go_enter Try.func90, Try.ntmps90
  go_wp2_with fail
  go_ret2
  exact ⟨rfl, rfl⟩

set_option maxRecDepth 100000 in
theorem held_yes (n : Int) (f : Value) (w : World) : Calls Try.prog 126 #[.int .i64 n, .bool true, f] w fun e w' => e = .returned (.int .i64 n) ∧ w = w' := by
  go_enter Try.func126, Try.ntmps126
  go_wp2_with fail
  go_ret
  exact ⟨rfl, rfl⟩

theorem satEnd_any (b : Int) (B : Nat) (w : World) (hc : w.cell? ⟨B, 0, none⟩ = some (.int .i64 b)) :
    Calls Try.prog 127 #[.pointer (some ⟨B, 0, none⟩)] w fun e w' => e = .returned (.int .i64 (if 0 < b then 9223372036854775807 else -9223372036854775808)) ∧ w = w' := by
  by_cases h : 0 < b
  · rw [if_pos h]
    have t1 : decide (0 < b) = true := decide_eq_true h
    go_enter Try.func127, Try.ntmps127
    go_wp2_with fail
    go_ret
    exact ⟨rfl, rfl⟩
  · rw [if_neg h]
    have t1 : decide (0 < b) = false := decide_eq_false h
    go_enter Try.func127, Try.ntmps127
    go_wp2_with fail
    go_ret
    exact ⟨rfl, rfl⟩

set_option maxRecDepth 100000 in
theorem held_no (n b : Int) (B : Nat) (w : World) (hc : w.cell? ⟨B, 0, none⟩ = some (.int .i64 b)) :
    Calls Try.prog 126 #[.int .i64 n, .bool false, .func (.func 127) #[] #[.pointer (some ⟨B, 0, none⟩)]] w fun e w' => e = .returned (.int .i64 (if 0 < b then 9223372036854775807 else -9223372036854775808)) ∧ w = w' := by
  have M1 := Lib.hid (satEnd_any b B w hc)
  generalize (if 0 < b then (9223372036854775807 : Int) else -9223372036854775808) = x at *
  clear hc
  go_enter Try.func126, Try.ntmps126
  go_wp2_with fail
  refine M1.out.mono ?_
  rintro e w' ⟨rfl, rfl⟩
  go_wp2_with fail
  go_ret
  exact ⟨rfl, rfl⟩

set_option maxRecDepth 100000 in
theorem fsat_any (a b : Int) (ha1 : -9223372036854775808 ≤ a) (ha2 : a ≤ 9223372036854775807) (hb1 : -9223372036854775808 ≤ b) (hb2 : b ≤ 9223372036854775807) (w : World) :
    Calls Try.prog 92 #[.int .i64 a, .int .i64 b] w fun e w' => e = .returned (.int .i64 (satZ a b)) ∧ Below w.heap.size w w' := by
  have hB0 : Below w.heap.size w (w.alloc (.cells #[.int .i64 b] 2)) := (Below.refl _ _).alloc (Nat.le_refl _) _
  by_cases h : a + b < -9223372036854775808 ∨ 9223372036854775807 < a + b
  · have e : (if 0 < b then (9223372036854775807 : Int) else -9223372036854775808) = satZ a b := by
      unfold satZ
      by_cases hb : 0 < b
      · rw [if_pos hb, if_pos (by omega)]
      · rw [if_neg hb, if_neg (by omega), if_pos (by omega)]
    have m2 := fun B W hc => held_no 0 b B W hc
    rw [e] at m2
    have M1 := Lib.hid fun W => fadd_no a b ha1 ha2 hb1 hb2 h W
    have M2 := Lib.hid m2
    generalize satZ a b = s at *
    clear e m2 h
    go_enter Try.func92, Try.ntmps92
    go_wp2_with fail
    refine (M1.out _).mono ?_
    rintro e w' ⟨rfl, rfl⟩
    go_wp2_with fail
    refine (M2.out _ _ (by simp [go_sem])).mono ?_
    rintro e w' ⟨rfl, rfl⟩
    go_wp2_with fail
    go_ret
    exact ⟨rfl, hB0⟩
  · have e : satZ a b = a + b := satZ_in a b (by omega) (by omega)
    have m1 := fun W => fadd_yes a b ha1 ha2 hb1 hb2 (by omega) (by omega) W
    rw [← e] at m1
    have M1 := Lib.hid m1
    generalize satZ a b = s at *
    clear e m1 h
    go_enter Try.func92, Try.ntmps92
    go_wp2_with fail
    refine (M1.out _).mono ?_
    rintro e w' ⟨rfl, rfl⟩
    go_wp2_with fail
    refine (held_yes s _ _).mono ?_
    rintro e w' ⟨rfl, rfl⟩
    go_wp2_with fail
    go_ret
    exact ⟨rfl, hB0⟩

/-- a number, held to two ends -/
def holdZ (n lo hi : Int) : Int := if n < lo then lo else if hi < n then hi else n
theorem holdZ_credit (n : Int) : 0 ≤ holdZ n 0 1099511627776 ∧ holdZ n 0 1099511627776 ≤ 1099511627776 := by
  unfold holdZ; split <;> (try split) <;> omega

theorem fhold_any (n lo hi : Int) (w : World) : Calls Try.prog 117 #[.int .i64 n, .int .i64 lo, .int .i64 hi] w fun e w' => e = .returned (.int .i64 (holdZ n lo hi)) ∧ w = w' := by
  by_cases h : n < lo
  · have e : holdZ n lo hi = lo := if_pos h
    rw [e]
    have t1 : decide (n < lo) = true := decide_eq_true h
    clear e
    go_enter Try.func117, Try.ntmps117
    go_wp2_with fail
    go_ret
    exact ⟨rfl, rfl⟩
  · have e : holdZ n lo hi = min n hi := by
      unfold holdZ
      rw [if_neg h]
      split <;> omega
    rw [e]
    have t1 : decide (n < lo) = false := decide_eq_false h
    clear e
    go_enter Try.func117, Try.ntmps117
    go_wp2_with fail
    go_ret
    exact ⟨rfl, rfl⟩

theorem refHold_any (n lo hi : Int) (w : World) : Calls Try.prog 141 #[.int .i64 n, .int .i64 lo, .int .i64 hi] w fun e w' => e = .returned (.int .i64 (holdZ n lo hi)) ∧ w = w' := by
  by_cases h : n < lo
  · have e : holdZ n lo hi = lo := if_pos h
    rw [e]
    have t1 : decide (n < lo) = true := decide_eq_true h
    clear e
    go_enter Try.func141, Try.ntmps141
    go_wp2_with fail
    go_ret
    exact ⟨rfl, rfl⟩
  · have t1 : decide (n < lo) = false := decide_eq_false h
    by_cases h2 : hi < n
    · have e : holdZ n lo hi = hi := by unfold holdZ; rw [if_neg h, if_pos h2]
      rw [e]
      have t2 : decide (hi < n) = true := decide_eq_true h2
      clear e
      go_enter Try.func141, Try.ntmps141
      go_wp2_with fail
      go_ret
      exact ⟨rfl, rfl⟩
    · have e : holdZ n lo hi = n := by unfold holdZ; rw [if_neg h, if_neg h2]
      rw [e]
      have t2 : decide (hi < n) = false := decide_eq_false h2
      clear e
      go_enter Try.func141, Try.ntmps141
      go_wp2_with fail
      go_ret
      exact ⟨rfl, rfl⟩

set_option maxRecDepth 100000 in
theorem refAdd_yes (a b : Int) (_ha1 : -9223372036854775808 ≤ a) (_ha2 : a ≤ 9223372036854775807) (hb1 : -9223372036854775808 ≤ b) (hb2 : b ≤ 9223372036854775807) (h1 : -9223372036854775808 ≤ a + b) (h2 : a + b ≤ 9223372036854775807) (w : World) :
    Calls Try.prog 109 #[.int .i64 a, .int .i64 b] w fun e w' => e = .returned (.tuple #[.int .i64 (a + b), .bool true]) ∧ w = w' := by
  by_cases p : 0 < b
  · have t1 : decide (0 < b) = true := decide_eq_true p
    have t2 : decide (b < 0) = false := decide_eq_false (by omega)
    have t3 : decide (9223372036854775807 - b < a) = false := decide_eq_false (by omega)
    go_enter Try.func109, Try.ntmps109
    go_wp2_with fail
    go_ret2
    exact ⟨rfl, rfl⟩
  · have t1 : decide (0 < b) = false := decide_eq_false p
    by_cases q : b < 0
    · have t2 : decide (b < 0) = true := decide_eq_true q
      have t3 : decide (a < -9223372036854775808 - b) = false := decide_eq_false (by omega)
      go_enter Try.func109, Try.ntmps109
      go_wp2_with fail
      go_ret2
      exact ⟨rfl, rfl⟩
    · have t2 : decide (b < 0) = false := decide_eq_false q
      go_enter Try.func109, Try.ntmps109
      go_wp2_with fail
      go_ret2
      exact ⟨rfl, rfl⟩

set_option maxRecDepth 100000 in
theorem refAdd_no (a b : Int) (ha1 : -9223372036854775808 ≤ a) (ha2 : a ≤ 9223372036854775807) (hb1 : -9223372036854775808 ≤ b) (hb2 : b ≤ 9223372036854775807) (h : a + b < -9223372036854775808 ∨ 9223372036854775807 < a + b) (w : World) :
    Calls Try.prog 109 #[.int .i64 a, .int .i64 b] w fun e w' => e = .returned (.tuple #[.int .i64 0, .bool false]) ∧ w = w' := by
  by_cases p : 0 < b
  · have t1 : decide (0 < b) = true := decide_eq_true p
    have t2 : decide (b < 0) = false := decide_eq_false (by omega)
    have t3 : decide (9223372036854775807 - b < a) = true := decide_eq_true (by omega)
    clear h
    go_enter Try.func109, Try.ntmps109
    go_wp2_with fail
    go_ret2
    exact ⟨rfl, rfl⟩
  · have t1 : decide (0 < b) = false := decide_eq_false p
    have t2 : decide (b < 0) = true := decide_eq_true (by omega)
    have t3 : decide (a < -9223372036854775808 - b) = true := decide_eq_true (by omega)
    clear h
    go_enter Try.func109, Try.ntmps109
    go_wp2_with fail
    go_ret2
    exact ⟨rfl, rfl⟩

set_option maxRecDepth 100000 in
theorem refSat_any (a b : Int) (ha1 : -9223372036854775808 ≤ a) (ha2 : a ≤ 9223372036854775807) (hb1 : -9223372036854775808 ≤ b) (hb2 : b ≤ 9223372036854775807) (w : World) :
    Calls Try.prog 110 #[.int .i64 a, .int .i64 b] w fun e w' => e = .returned (.int .i64 (satZ a b)) ∧ w = w' := by
  by_cases h : a + b < -9223372036854775808 ∨ 9223372036854775807 < a + b
  · have M1 := Lib.hid fun W => refAdd_no a b ha1 ha2 hb1 hb2 h W
    by_cases p : 0 < b
    · have e : satZ a b = 9223372036854775807 := by unfold satZ; rw [if_pos (by omega)]
      rw [e]
      have t1 : decide (0 < b) = true := decide_eq_true p
      clear e h
      go_enter Try.func110, Try.ntmps110
      go_wp2_with fail
      refine (M1.out _).mono ?_
      rintro e w' ⟨rfl, rfl⟩
      go_wp2_with fail
      go_ret
      exact ⟨rfl, rfl⟩
    · have e : satZ a b = -9223372036854775808 := by unfold satZ; rw [if_neg (by omega), if_pos (by omega)]
      rw [e]
      have t1 : decide (0 < b) = false := decide_eq_false p
      clear e h
      go_enter Try.func110, Try.ntmps110
      go_wp2_with fail
      refine (M1.out _).mono ?_
      rintro e w' ⟨rfl, rfl⟩
      go_wp2_with fail
      go_ret
      exact ⟨rfl, rfl⟩
  · have e : satZ a b = a + b := satZ_in a b (by omega) (by omega)
    have m1 := fun W => refAdd_yes a b ha1 ha2 hb1 hb2 (by omega) (by omega) W
    rw [← e] at m1
    have M1 := Lib.hid m1
    generalize satZ a b = s at *
    clear e m1 h
    go_enter Try.func110, Try.ntmps110
    go_wp2_with fail
    refine (M1.out _).mono ?_
    rintro e w' ⟨rfl, rfl⟩
    go_wp2_with fail
    go_ret
    exact ⟨rfl, rfl⟩

end Go.Proofs.Ytkemhcokkaanfaa
