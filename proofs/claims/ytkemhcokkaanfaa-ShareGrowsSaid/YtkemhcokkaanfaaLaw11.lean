/-
  THE LAWS OF LAYER 11 (share), the walks: weights, what is held, splits. For every input each returns true. No conditions.
-/
import Derived.Test.YtkemhcokkaanfaaShare6
import Derived.Test.YtkemhcokkaanfaaFrame
namespace Go.Proofs.Ytkemhcokkaanfaa
open Go.ChangeShapes Go.WideShapes Go.ChangeAt Go.RowKit

theorem u64s_two (w : World) (b x y : Nat) (h0 : w.cell? ⟨b, 0, none⟩ = some (.int .u64 x)) (h1 : w.cell? ⟨b, 1, none⟩ = some (.int .u64 y)) (B : Nat) (hB : b < B) : U64s w B (some ⟨b, 0, none⟩) [x, y] := by
  refine .inr ⟨b, 0, rfl, hB, fun j hj => ?_⟩
  match j, hj with
  | 0, _ => simpa using h0
  | 1, _ => simpa using h1
theorem words_two (x y : Nat) (hx : x < 18446744073709551616) (hy : y < 18446744073709551616) : Words [x, y] := by
  intro j hj
  match j, hj with
  | 0, _ => simpa using hx
  | 1, _ => simpa using hy

set_option maxRecDepth 100000 in
set_option maxHeartbeats 1000000 in
theorem shown11 (w : World) : Calls Try.prog 21 #[] w fun e w' => e = .returned (.bool true) ∧ Below w.heap.size w w' := by
  have m1 := fun W A c (h : U64s W W.heap.size A [1, 3]) => split_any W A [1, 3] c 1024 h (words_two 1 3 (by omega) (by omega)) (by simp) (by omega)
  have e1 : splitN 1024 [1, 3] = [256, 768] := by decide +kernel
  rw [e1] at m1
  have m2 := fun W A A' c c' (h1 : U64s W W.heap.size A [256, 768]) (h2 : U64s W W.heap.size A' [256, 768]) => same_any W A A' [256, 768] [256, 768] c c' _ _ h1 h2 (by simp) (by simp) (Nat.le_refl _) (Nat.le_refl _)
  have e2 : decide (([256, 768] : List Nat) = [256, 768]) = true := rfl
  rw [e2] at m2
  have m3 := fun W => hold_b 0 W
  have e3 : holdN 0 = 2 := rfl
  rw [e3] at m3
  have M1 := Lib.hid m1
  have M2 := Lib.hid m2
  have M3 := Lib.hid m3
  clear m1 m2 m3 e1 e2 e3
  go_enter Try.func21, Try.ntmps21
  go_wp2_with fail
  refine (M1.out _ _ _ (u64s_two _ _ 1 3 (by simp [go_sem]) (by simp [go_sem]) _ (by simp))).mono ?_
  rintro e w1 ⟨v, rfl, hown, hb1⟩
  obtain ⟨A, c, rfl, hU⟩ := own_words hown
  have hz1 := hb1.size
  simp at hz1
  go_wp2_with fail
  refine (M2.out _ _ _ _ _ ((hU.keep ((Below.refl _ _).alloc (Nat.le_refl _) _)).more (by simp)) (u64s_two _ _ 256 768 (by simp [go_sem]) (by simp [go_sem]) _ (by simp))).mono ?_
  rintro e w2 ⟨rfl, hb2⟩
  have hz2 := hb2.size
  simp at hz2
  go_wp2_with fail
  refine (M3.out _).mono ?_
  rintro e w3 ⟨rfl, hb3⟩
  go_wp2_with fail
  go_ret
  have B1 := ((Below.refl w.heap.size w).alloc (Nat.le_refl _) _).trans (hb1.mono (by simp))
  have B2 := (B1.alloc (by omega) _).trans (hb2.mono (by simp; omega))
  exact ⟨rfl, B2.trans (hb3.mono (by omega))⟩

namespace shareWeights
end shareWeights

namespace shareHolds
theorem hold_hold (w : Nat) : holdN (holdN w) = holdN w := by unfold holdN; omega
theorem w_none (s a : Nat) : wgtN s 0 a = 2 := by
  unfold wgtN
  split
  · rfl
  · have h : s * 0 < a * 18446744073709551616 := by omega
    have e : mdOk s 0 a = true := decide_eq_true h
    have q : mdQ s 0 a = 0 := (if_pos h).trans (by simp)
    rw [e, q]; rfl
theorem w_zero (s h : Nat) : wgtN s h 0 = 2 := if_pos rfl
theorem w_all (s a : Nat) (ha : 0 < a) (hs : s < 18446744073709551616) : wgtN s a a = holdN s := by
  unfold wgtN
  rw [if_neg (by omega)]
  have h : s * a < a * 18446744073709551616 := by rw [Nat.mul_comm]; exact Nat.mul_lt_mul_of_pos_left hs ha
  have e : mdOk s a a = true := decide_eq_true h
  have q : mdQ s a a = s := (if_pos h).trans (Nat.mul_div_cancel _ ha)
  rw [e, q]; rfl

end shareHolds

end Go.Proofs.Ytkemhcokkaanfaa
