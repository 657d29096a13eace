/-
  THE LAWS OF LAYER 11 (share), the walks: weights, what is held, splits. For every input each returns true. No conditions.
-/
import Derived.Test.YtnpjacfefocjnaaShare6
import Derived.Test.YtnpjacfefocjnaaFrame
namespace Go.Proofs.Ytnpjacfefocjnaa
open Go.ChangeShapes Go.WideShapes Go.ChangeAt Go.RowKit

theorem u64s_two (w : World) (b x y : Nat) (h0 : w.cell? ⟨b, 0, none⟩ = some (.int .u64 x)) (h1 : w.cell? ⟨b, 1, none⟩ = some (.int .u64 y)) (B : Nat) (hB : b < B) : U64s w B (some ⟨b, 0, none⟩) [x, y] := by
  refine .inr ⟨b, 0, rfl, hB, fun j hj => ?_⟩
  match j, hj with
  | 0, _ => simpa using h0
  | 1, _ => simpa using h1
theorem words_two (x y : Nat) (hx : x < 18446744073709551616) (hy : y < 18446744073709551616) : Words [x, y] := by
  intro j hj
  match j, hj with
  | 0, _ => simpa using hx
  | 1, _ => simpa using hy

set_option maxRecDepth 100000 in
set_option maxHeartbeats 1000000 in
theorem shown11 (w : World) : Calls Try.prog 56 #[] w fun e w' => e = .returned (.bool true) ∧ Below w.heap.size w w' := by
  have m1 := fun W A c (h : U64s W W.heap.size A [1, 3]) => split_any W A [1, 3] c 1024 h (words_two 1 3 (by omega) (by omega)) (by simp) (by omega)
  have e1 : splitN 1024 [1, 3] = [256, 768] := by decide +kernel
  rw [e1] at m1
  have m2 := fun W A A' c c' (h1 : U64s W W.heap.size A [256, 768]) (h2 : U64s W W.heap.size A' [256, 768]) => same_any W A A' [256, 768] [256, 768] c c' _ _ h1 h2 (by simp) (by simp) (Nat.le_refl _) (Nat.le_refl _)
  have e2 : decide (([256, 768] : List Nat) = [256, 768]) = true := rfl
  rw [e2] at m2
  have m3 := fun W => hold_b 0 W
  have e3 : holdN 0 = 2 := rfl
  rw [e3] at m3
  have M1 := Lib.hid m1
  have M2 := Lib.hid m2
  have M3 := Lib.hid m3
  clear m1 m2 m3 e1 e2 e3
  go_enter Try.func56, Try.ntmps56
  go_wp2_with fail
  refine (M1.out _ _ _ (u64s_two _ _ 1 3 (by simp [go_sem]) (by simp [go_sem]) _ (by simp))).mono ?_
  rintro e w1 ⟨v, rfl, hown, hb1⟩
  obtain ⟨A, c, rfl, hU⟩ := own_words hown
  have hz1 := hb1.size
  simp at hz1
  go_wp2_with fail
  refine (M2.out _ _ _ _ _ ((hU.keep ((Below.refl _ _).alloc (Nat.le_refl _) _)).more (by simp)) (u64s_two _ _ 256 768 (by simp [go_sem]) (by simp [go_sem]) _ (by simp))).mono ?_
  rintro e w2 ⟨rfl, hb2⟩
  have hz2 := hb2.size
  simp at hz2
  go_wp2_with fail
  refine (M3.out _).mono ?_
  rintro e w3 ⟨rfl, hb3⟩
  go_wp2_with fail
  go_ret
  have B1 := ((Below.refl w.heap.size w).alloc (Nat.le_refl _) _).trans (hb1.mono (by simp))
  have B2 := (B1.alloc (by omega) _).trans (hb2.mono (by simp; omega))
  exact ⟨rfl, B2.trans (hb3.mono (by omega))⟩

namespace shareWeights
theorem refWeight_b (s h a : Nat) (hs : s < 18446744073709551616) (hh : h < 18446744073709551616) (ha : a < 18446744073709551616) (w : World) :
    Calls Try.prog 58 #[.int .u64 s, .int .u64 h, .int .u64 a] w fun e w' => e = .returned (.int .u64 (wgtN s h a : Nat)) ∧ Below w.heap.size w w' := (refWeight_any s h a hs hh ha w).mono fun _ _ ⟨h, h2⟩ => ⟨h, h2 ▸ Below.refl _ _⟩
set_option maxRecDepth 100000 in
set_option maxHeartbeats 400000 in
theorem walk (s h a : Nat) (hs : s < 18446744073709551616) (hh : h < 18446744073709551616) (ha : a < 18446744073709551616) (w : World) :
    Calls Try.prog 18 #[.int .u64 s, .int .u64 h, .int .u64 a] w fun e w' => e = .returned (.bool true) ∧ Below w.heap.size w w' := by
  have m1 := fun W => weight_any s h a hs hh ha W
  have m2 := fun W => refWeight_b s h a hs hh ha W
  have m3 := fun W => hold_b s W
  have m4 := fun W => refHold_b s W
  generalize wgtN s h a = x at *
  generalize holdN s = y at *
  have M1 := Lib.hid m1
  have M2 := Lib.hid m2
  have M3 := Lib.hid m3
  have M4 := Lib.hid m4
  clear m1 m2 m3 m4
  go_enter Try.func18, Try.ntmps18
  go_wp2_with fail
  refine (shown11 _).mono ?_
  rintro e w1 ⟨rfl, hb1⟩
  have hz1 := hb1.size
  go_wp2_with fail
  refine (M1.out _).mono ?_
  rintro e w2 ⟨rfl, hb2⟩
  have hz2 := hb2.size
  go_wp2_with fail
  refine (M2.out _).mono ?_
  rintro e w3 ⟨rfl, hb3⟩
  have hz3 := hb3.size
  go_wp2_with fail
  refine (M3.out _).mono ?_
  rintro e w4 ⟨rfl, hb4⟩
  have hz4 := hb4.size
  go_wp2_with fail
  refine (M4.out _).mono ?_
  rintro e w5 ⟨rfl, hb5⟩
  have hz5 := hb5.size
  go_wp2_with fail
  go_ret
  have B1 := hb1
  have B2 := B1.trans (hb2.mono (by omega))
  have B3 := B2.trans (hb3.mono (by omega))
  have B4 := B3.trans (hb4.mono (by omega))
  have B5 := B4.trans (hb5.mono (by omega))
  exact ⟨rfl, B5⟩
end shareWeights

namespace shareHolds
theorem hold_hold (w : Nat) : holdN (holdN w) = holdN w := by unfold holdN; omega
theorem w_none (s a : Nat) : wgtN s 0 a = 2 := by
  unfold wgtN
  split
  · rfl
  · have h : s * 0 < a * 18446744073709551616 := by omega
    have e : mdOk s 0 a = true := decide_eq_true h
    have q : mdQ s 0 a = 0 := (if_pos h).trans (by simp)
    rw [e, q]; rfl
theorem w_zero (s h : Nat) : wgtN s h 0 = 2 := if_pos rfl
theorem w_all (s a : Nat) (ha : 0 < a) (hs : s < 18446744073709551616) : wgtN s a a = holdN s := by
  unfold wgtN
  rw [if_neg (by omega)]
  have h : s * a < a * 18446744073709551616 := by rw [Nat.mul_comm]; exact Nat.mul_lt_mul_of_pos_left hs ha
  have e : mdOk s a a = true := decide_eq_true h
  have q : mdQ s a a = s := (if_pos h).trans (Nat.mul_div_cancel _ ha)
  rw [e, q]; rfl

set_option maxRecDepth 100000 in
set_option maxHeartbeats 1000000 in
theorem walk (s a : Nat) (hs : s < 18446744073709551616) (ha : a < 18446744073709551616) (w : World) :
    Calls Try.prog 21 #[.int .u64 s, .int .u64 a] w fun e w' => e = .returned (.bool true) ∧ Below w.heap.size w w' := by
  have m1 := fun W => hold_b s W
  have m2 := fun W => hold_b (holdN s) W
  have m3 := fun W => weight_any s 0 a hs (by omega) ha W
  have m4 := fun W => weight_any s a 0 hs ha (by omega) W
  have m5 := fun W => weight_any s a a hs ha ha W
  rw [hold_hold] at m2
  rw [w_none] at m3
  rw [w_zero] at m4
  have hl := holdN_le s
  have hid : 2 ≤ s → s ≤ 262144 → holdN s = s := by unfold holdN; omega
  have h5 := fun h => w_all s a h hs
  generalize wgtN s a a = x at *
  generalize holdN s = h at *
  have t1 : decide ((h : Int) < 2) = false := decide_eq_false (by omega)
  have t2 : decide ((262144 : Int) < (h : Int)) = false := decide_eq_false (by omega)
  have cs : (decide ((2 : Int) ≤ (s : Int)) = false) ∨ (decide ((2 : Int) ≤ (s : Int)) = true ∧ decide ((s : Int) ≤ 262144) = false) ∨ (decide ((2 : Int) ≤ (s : Int)) = true ∧ decide ((s : Int) ≤ 262144) = true ∧ h = s) := by
    by_cases h1 : 2 ≤ s
    · by_cases h2 : s ≤ 262144
      · exact .inr (.inr ⟨decide_eq_true (by omega), decide_eq_true (by omega), hid h1 h2⟩)
      · exact .inr (.inl ⟨decide_eq_true (by omega), decide_eq_false (by omega)⟩)
    · exact .inl (decide_eq_false (by omega))
  have c5 : a = 0 ∨ (((a : Int) == 0) = false ∧ x = h) := by
    rcases Nat.eq_zero_or_pos a with h0 | h0
    · exact .inl h0
    · exact .inr ⟨by simp; omega, h5 h0⟩
  clear hid h5 hl
  have M1 := Lib.hid m1
  have M2 := Lib.hid m2
  have M3 := Lib.hid m3
  have M4 := Lib.hid m4
  have M5 := Lib.hid m5
  clear m1 m2 m3 m4 m5
  rcases cs with g1 | ⟨g1, g2⟩ | ⟨g1, g2, rfl⟩
  all_goals
    rcases c5 with rfl | ⟨g5, rfl⟩
    · skip
      go_enter Try.func21, Try.ntmps21
      go_wp2_with fail
      refine (shown11 _).mono ?_
      rintro e w1 ⟨rfl, hb1⟩
      have hz1 := hb1.size
      go_wp2_with fail
      refine (M1.out _).mono ?_
      rintro e w2 ⟨rfl, hb2⟩
      have hz2 := hb2.size
      go_wp2_with fail
      refine (M2.out _).mono ?_
      rintro e w3 ⟨rfl, hb3⟩
      have hz3 := hb3.size
      go_wp2_with fail
      refine (M3.out _).mono ?_
      rintro e w4 ⟨rfl, hb4⟩
      have hz4 := hb4.size
      go_wp2_with fail
      refine (M4.out _).mono ?_
      rintro e w5 ⟨rfl, hb5⟩
      have hz5 := hb5.size
      go_wp2_with fail
      go_ret
      have B1 := hb1
      have B2 := B1.trans (hb2.mono (by omega))
      have B3 := B2.trans (hb3.mono (by omega))
      have B4 := B3.trans (hb4.mono (by omega))
      have B5 := B4.trans (hb5.mono (by omega))
      exact ⟨rfl, B5⟩
    · skip
      go_enter Try.func21, Try.ntmps21
      go_wp2_with fail
      refine (shown11 _).mono ?_
      rintro e w1 ⟨rfl, hb1⟩
      have hz1 := hb1.size
      go_wp2_with fail
      refine (M1.out _).mono ?_
      rintro e w2 ⟨rfl, hb2⟩
      have hz2 := hb2.size
      go_wp2_with fail
      refine (M2.out _).mono ?_
      rintro e w3 ⟨rfl, hb3⟩
      have hz3 := hb3.size
      go_wp2_with fail
      refine (M3.out _).mono ?_
      rintro e w4 ⟨rfl, hb4⟩
      have hz4 := hb4.size
      go_wp2_with fail
      refine (M4.out _).mono ?_
      rintro e w5 ⟨rfl, hb5⟩
      have hz5 := hb5.size
      go_wp2_with fail
      refine (M5.out _).mono ?_
      rintro e w6 ⟨rfl, hb6⟩
      have hz6 := hb6.size
      go_wp2_with fail
      go_ret
      have B1 := hb1
      have B2 := B1.trans (hb2.mono (by omega))
      have B3 := B2.trans (hb3.mono (by omega))
      have B4 := B3.trans (hb4.mono (by omega))
      have B5 := B4.trans (hb5.mono (by omega))
      have B6 := B5.trans (hb6.mono (by omega))
      exact ⟨rfl, B6⟩
end shareHolds

end Go.Proofs.Ytnpjacfefocjnaa
