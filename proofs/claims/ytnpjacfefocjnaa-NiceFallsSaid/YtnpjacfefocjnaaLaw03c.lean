/-
  THE LAWS OF LAYER 03 (nice), the walks, third part. For every input each returns true. No conditions.
-/
import Derived.Test.YtnpjacfefocjnaaLaw03b
namespace Go.Proofs.Ytnpjacfefocjnaa
open Go.ChangeShapes Go.WideShapes Go.ChangeAt Go.RowKit

theorem wlist_at (k j : Nat) (hj : j < k) : (wlist (wupto k)).getD j 0 = wgt ((j : Int) - 20) := by
  unfold wlist wupto
  simp [List.getD, hj]
theorem words_table : Words (wlist (wupto 40)) := by
  intro j hj
  rw [wlist_upto] at hj
  rw [wlist_at 40 j hj]
  have := (wgt_held j hj).2
  omega

namespace niceFalls
theorem law : ∀ j, j < 39 → 4 * wgt ((j : Nat) - 20 : Int) ≤ 5 * wgt ((j : Nat) - 19 : Int) + 4 ∧ 5 * wgt ((j : Nat) - 19 : Int) ≤ 4 * wgt ((j : Nat) - 20 : Int) + 3 := by decide +kernel
set_option maxRecDepth 100000 in
set_option maxHeartbeats 2000000 in
theorem walk (n : Nat) (hn : n < 256) (w : World) : Calls Try.prog 27 #[.int .u8 n] w fun e w' => e = .returned (.bool true) ∧ Below w.heap.size w w' := by
  obtain ⟨j, hj⟩ : ∃ j, j = n % 39 := ⟨_, rfl⟩
  have j39 : j < 39 := by omega
  have e1 : (n : Int) % 39 = (j : Int) := by omega
  obtain ⟨k, hk⟩ : ∃ k : Int, k = (j : Int) - 19 := ⟨_, rfl⟩
  obtain ⟨k1, hk1⟩ : ∃ k : Int, k = (j : Int) - 20 := ⟨_, rfl⟩
  have e2 : (j : Int) - 19 = k := hk.symm
  have e3 : k - 1 = k1 := by omega
  have e4 : k + 20 = ((j + 1 : Nat) : Int) := by omega
  have st := wgt_step j j39
  have hd := (wgt_held j (by omega)).2
  obtain ⟨l1, l2⟩ := law j j39
  have la := wlist_at 40 (j + 1) (by omega)
  rw [show (((j + 1 : Nat) : Int) - 20) = k by omega] at la
  rw [← hk, ← hk1] at st l1 l2
  rw [← hk1] at hd
  have M1 := Lib.hid fun W => nweight_yes k1 (by omega) (by omega) W
  have M2 := Lib.hid fun W => nweight_yes k (by omega) (by omega) W
  have M3 := Lib.hid fun W => table_any W
  have LA := Lib.hid la
  have b1 : -19 ≤ k := by omega
  have b2 : k ≤ 19 := by omega
  clear la
  generalize wgt k = b at *
  generalize wgt k1 = a at *
  obtain ⟨i, hi⟩ : ∃ i, i = j + 1 := ⟨_, rfl⟩
  rw [← hi] at e4 LA
  have i40 : i < 40 := by omega
  have t1 : decide (a ≤ b) = false := decide_eq_false (by omega)
  have t2 : decide ((4 : Int) * (a : Int) ≤ 5 * (b : Int) + 4) = true := decide_eq_true (by omega)
  have t3 : decide ((5 : Int) * (b : Int) ≤ 4 * (a : Int) + 3) = true := decide_eq_true (by omega)
  have i0 : (0 : Int) ≤ (i : Int) := Int.natCast_nonneg _
  have i1 : (i : Int) < 40 := by omega
  clear hj hk hk1 l1 l2 hi
  go_enter Try.func27, Try.ntmps27
  go_wp2_with fail
  refine (awake03 _).mono ?_
  rintro e w1 ⟨rfl, hb1⟩
  have hz1 := hb1.size
  go_wp2_with fail
  refine (M1.out _).mono ?_
  rintro e w2 ⟨rfl, hb2⟩
  have hz2 := hb2.size
  go_wp2_with fail
  refine (M2.out _).mono ?_
  rintro e w3 ⟨rfl, hb3⟩
  have hz3 := hb3.size
  go_wp2_with fail
  refine (M3.out _).mono ?_
  rintro e w4 ⟨v, rfl, hown, hb4⟩
  have hz4 := hb4.size
  obtain ⟨A, c, rfl, hU⟩ := own_words hown
  have B4 := ((hb1.trans (hb2.mono hz1)).trans (hb3.mono (by omega))).trans (hb4.mono (by omega))
  rcases hU with h0 | ⟨bb, off, rfl, hB, hc⟩
  · exact absurd (congrArg List.length h0) (by rw [wlist_upto]; simp)
  have hci := hc i (by rw [wlist_upto]; exact i40)
  rw [LA.out] at hci
  rw [wlist_upto]
  clear hc hown hb1 hb2 hb3 hb4
  go_wp2_with fail
  go_ret
  exact ⟨rfl, B4⟩
end niceFalls

namespace niceWeights
set_option maxRecDepth 100000 in
set_option maxHeartbeats 2000000 in
theorem walk (n : Int) (h1 : -9223372036854775808 ≤ n) (h2 : n ≤ 9223372036854775807) (w : World) : Calls Try.prog 26 #[.int .i64 n] w fun e w' => e = .returned (.bool true) ∧ Below w.heap.size w w' := by
  obtain ⟨x, y, M1, M2⟩ : ∃ (x : Nat) (y : Int), Hid (∀ W, Calls Try.prog 46 #[.int .i64 n] W fun e w' => e = .returned (.tuple #[.int .u64 x, .int .i64 y]) ∧ Below W.heap.size W w') ∧ Hid (∀ W, Calls Try.prog 70 #[.int .i64 n] W fun e w' => e = .returned (.tuple #[.int .u64 x, .int .i64 y]) ∧ Below W.heap.size W w') := by
    by_cases hn : n < -20 ∨ 19 < n
    · exact ⟨0, 1, fun W => nweight_no n hn W, fun W => refNweight_no n hn W⟩
    · exact ⟨wgt n, 0, fun W => nweight_yes n (by omega) (by omega) W, fun W => refNweight_yes n (by omega) (by omega) W⟩
  have M3 := Lib.hid fun W => table_any W
  have M4 := Lib.hid fun W => refTable_any W
  have M5 := Lib.hid fun W A A' c c' (h1 : U64s W W.heap.size A (wlist (wupto 40))) (h2 : U64s W W.heap.size A' (wlist (wupto 40))) => same03_any W A A' (wlist (wupto 40)) (wlist (wupto 40)) c c' _ _ h1 h2 (by rw [wlist_upto]; omega) (by rw [wlist_upto]; omega) (Nat.le_refl _) (Nat.le_refl _)
  rw [show decide (wlist (wupto 40) = wlist (wupto 40)) = true from decide_eq_true rfl] at M5
  generalize wlist (wupto 40) = T at *
  go_enter Try.func26, Try.ntmps26
  go_wp2_with fail
  refine (awake03 _).mono ?_
  rintro e w1 ⟨rfl, hb1⟩
  have hz1 := hb1.size
  go_wp2_with fail
  refine (M1.out _).mono ?_
  rintro e w2 ⟨rfl, hb2⟩
  have hz2 := hb2.size
  go_wp2_with fail
  refine (M2.out _).mono ?_
  rintro e w3 ⟨rfl, hb3⟩
  have hz3 := hb3.size
  go_wp2_with fail
  refine (M3.out _).mono ?_
  rintro e w4 ⟨v, rfl, hown4, hb4⟩
  have hz4 := hb4.size
  obtain ⟨A4, c4, rfl, hU4⟩ := own_words hown4
  clear hown4
  go_wp2_with fail
  refine (M4.out _).mono ?_
  rintro e w5 ⟨v, rfl, hown5, hb5⟩
  have hz5 := hb5.size
  obtain ⟨A5, c5, rfl, hU5⟩ := own_words hown5
  clear hown5
  go_wp2_with fail
  refine (M5.out _ _ _ _ _ ((hU4.keep hb5).more hz5) hU5).mono ?_
  rintro e w6 ⟨rfl, hb6⟩
  have B6 := ((((hb1.trans (hb2.mono hz1)).trans (hb3.mono (by omega))).trans (hb4.mono (by omega))).trans (hb5.mono (by omega))).trans (hb6.mono (by omega))
  clear hU4 hU5 hb1 hb2 hb3 hb4 hb5 hb6
  go_wp2_with fail
  go_ret
  exact ⟨rfl, B6⟩
end niceWeights

end Go.Proofs.Ytnpjacfefocjnaa
