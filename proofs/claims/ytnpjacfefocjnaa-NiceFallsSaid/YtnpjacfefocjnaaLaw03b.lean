/-
  THE LAWS OF LAYER 03 (nice), the walks, second part. For every input each returns true. No conditions.
-/
import Derived.Test.YtnpjacfefocjnaaLaw03
namespace Go.Proofs.Ytnpjacfefocjnaa
open Go.ChangeShapes Go.WideShapes Go.ChangeAt Go.RowKit

theorem down_of (v j : Nat) (hj : j < 40) (h1 : v ≤ wgt ((j : Int) - 20)) (h2 : j + 1 < 40 → wgt ((j : Int) - 19) < v) : down v 39 = (j : Int) - 20 := by
  rw [down_at v (j + 1) (by omega) (fun i hi => Nat.le_trans h1 (wgt_le i j (by omega) (by omega))) (fun h => by have := h2 h; rw [show (((j + 1 : Nat) : Int) - 20) = (j : Int) - 19 by omega]; exact this), if_neg (by omega)]
  omega
theorem down_le (v m : Nat) : down v m ≤ (m : Int) - 20 := by
  induction m with
  | zero => exact Int.le_refl _
  | succ m ih => unfold down; split <;> omega
theorem down_ge (v m : Nat) : -20 ≤ down v m := by
  induction m with
  | zero => exact Int.le_refl _
  | succ m ih => unfold down; split <;> omega
theorem down_anti {v v' : Nat} (h : v ≤ v') (m : Nat) : down v' m ≤ down v m := by
  induction m with
  | zero => exact Int.le_refl _
  | succ m ih =>
    unfold down
    by_cases h1 : v' ≤ wgt ((m : Int) - 19)
    · rw [if_pos h1, if_pos (Nat.le_trans h h1)]; exact Int.le_refl _
    · rw [if_neg h1]
      split
      · have := down_le v' m; omega
      · exact ih
theorem down_holds (v m : Nat) : v ≤ wgt (down v m) ∨ down v m = -20 := by
  induction m with
  | zero => exact .inr rfl
  | succ m ih =>
    unfold down
    split
    · rename_i h; exact .inl h
    · exact ih
theorem wgt_held : ∀ j, j < 40 → 2 ≤ wgt ((j : Nat) - 20 : Int) ∧ wgt ((j : Nat) - 20 : Int) ≤ 262144 := by decide +kernel

namespace niceBack
set_option maxRecDepth 100000 in
set_option maxHeartbeats 1000000 in
theorem walk (n l : Nat) (hn : n < 256) (hl : l < 18446744073709551616) (w : World) : Calls Try.prog 11 #[.int .u8 n, .int .u64 l] w fun e w' => e = .returned (.bool true) ∧ Below w.heap.size w w' := by
  obtain ⟨j, hj⟩ : ∃ j, j = n % 39 := ⟨_, rfl⟩
  have j39 : j < 39 := by omega
  have e1 : (n : Int) % 39 = (j : Int) := by omega
  obtain ⟨k, hk⟩ : ∃ k : Int, k = (j : Int) - 19 := ⟨_, rfl⟩
  obtain ⟨k1, hk1⟩ : ∃ k : Int, k = (j : Int) - 20 := ⟨_, rfl⟩
  have e2 : (j : Int) - 19 = k := hk.symm
  have e3 : k - 1 = k1 := by omega
  have st := wgt_step j j39
  have hd := (wgt_held j (by omega)).2
  rw [← hk, ← hk1] at st
  rw [← hk1] at hd
  have D1 : down (wgt k) 39 = k := by
    have := down_of (wgt k) (j + 1) (by omega) (by rw [show (((j + 1 : Nat) : Int) - 20) = k by omega]; exact Nat.le_refl _) (fun h => by have := wgt_step (j + 1) (by omega); rw [show (((j + 1 : Nat) : Int) - 20) = k by omega] at this; exact this)
    rw [this]; omega
  have D2 : ∀ x, wgt k < x → x ≤ wgt k1 → down x 39 = k1 := fun x h1 h2 => by
    rw [down_of x j (by omega) (by rw [← hk1]; exact h2) (fun _ => by rw [← hk]; exact h1), hk1]
  have M1 := Lib.hid fun W => nweight_yes k1 (by omega) (by omega) W
  have M2 := Lib.hid fun W => nweight_yes k (by omega) (by omega) W
  have b1 : -19 ≤ k := by omega
  have b2 : k ≤ 19 := by omega
  generalize wgt k = b at *
  generalize wgt k1 = a at *
  obtain ⟨r, hr⟩ : ∃ r, r = l % (a - b) := ⟨_, rfl⟩
  have hr2 : r < a - b := by rw [hr]; exact Nat.mod_lt _ (by omega)
  obtain ⟨d, hdd⟩ : ∃ d, d = a - b := ⟨_, rfl⟩
  have f1 : (a : Int) - (b : Int) = (d : Int) := by omega
  have f2 : (l : Int) % (d : Int) = (r : Int) := by rw [hr, hdd]; exact (Int.natCast_emod l (a - b)).symm
  obtain ⟨bt, hbt⟩ : ∃ bt, bt = b + 1 + r := ⟨_, rfl⟩
  have f3 : (b : Int) + 1 + (r : Int) = (bt : Int) := by omega
  have M3 := Lib.hid fun W => nearest_any b W
  have M4 := Lib.hid fun W => nearest_any a W
  have M5 := Lib.hid fun W => nearest_any bt W
  rw [D1] at M3
  rw [D2 a st (Nat.le_refl _)] at M4
  rw [D2 bt (by omega) (by omega)] at M5
  have t1 : decide (a ≤ b) = false := decide_eq_false (by omega)
  have t2 : ((d : Int) == 0) = false := by simp; omega
  have z1 : r < 18446744073709551616 := by omega
  have z2 : 0 < d := by omega
  have z3 : d ≤ 262144 := by omega
  have z4 : r < d := by omega
  have z5 : b + 1 + r ≤ 262144 := by omega
  clear hj hk hk1 D1 D2 hr hdd hbt hr2
  go_enter Try.func11, Try.ntmps11
  go_wp2_with fail
  refine (awake03 _).mono ?_
  rintro e w1 ⟨rfl, hb1⟩
  have hz1 := hb1.size
  go_wp2_with fail
  refine (M1.out _).mono ?_
  rintro e w2 ⟨rfl, hb2⟩
  have hz2 := hb2.size
  go_wp2_with fail
  refine (M2.out _).mono ?_
  rintro e w3 ⟨rfl, hb3⟩
  have hz3 := hb3.size
  go_wp2_with fail
  refine (M3.out _).mono ?_
  rintro e w4 ⟨rfl, hb4⟩
  have hz4 := hb4.size
  go_wp2_with fail
  refine (M4.out _).mono ?_
  rintro e w5 ⟨rfl, hb5⟩
  have hz5 := hb5.size
  go_wp2_with fail
  refine (M5.out _).mono ?_
  rintro e w6 ⟨rfl, hb6⟩
  have hz6 := hb6.size
  go_wp2_with fail
  go_ret
  have B1 := hb1
  have B2 := B1.trans (hb2.mono (by omega))
  have B3 := B2.trans (hb3.mono (by omega))
  have B4 := B3.trans (hb4.mono (by omega))
  have B5 := B4.trans (hb5.mono (by omega))
  have B6 := B5.trans (hb6.mono (by omega))
  exact ⟨rfl, B6⟩
end niceBack

namespace niceHolds
set_option maxRecDepth 100000 in
set_option maxHeartbeats 1000000 in
theorem walk (v u : Nat) (hv : v < 18446744073709551616) (hu : u < 18446744073709551616) (w : World) : Calls Try.prog 13 #[.int .u64 v, .int .u64 u] w fun e w' => e = .returned (.bool true) ∧ Below w.heap.size w w' := by
  obtain ⟨x, hx⟩ : ∃ x, x = max v u := ⟨_, rfl⟩
  have e1 : max (v : Int) (u : Int) = (x : Int) := by omega
  have M1 := Lib.hid fun W => nearest_any v W
  have M3 := Lib.hid fun W => nearest_any x W
  have d1 := down_le v 39
  have d2 := down_ge v 39
  have d3 := down_anti (show v ≤ x by omega) 39
  have d4 := down_holds v 39
  have d5 : 2 ≤ wgt (down v 39) ∧ wgt (down v 39) ≤ 262144 := by
    have := wgt_held (down v 39 + 20).toNat (by omega)
    rw [show (((down v 39 + 20).toNat : Int) - 20) = down v 39 by omega] at this
    exact this
  have M2 := Lib.hid fun W => nweight_yes (down v 39) (by omega) (by omega) W
  generalize wgt (down v 39) = a at *
  generalize down v 39 = n at *
  generalize down x 39 = m at *
  obtain ⟨d5, d6⟩ := d5
  have t1 : decide (a < 2) = false := decide_eq_false (by omega)
  have t2 : decide (262144 < a) = false := decide_eq_false (by omega)
  have t1' : decide ((a : Int) < 2) = false := decide_eq_false (by omega)
  have t2' : decide ((262144 : Int) < (a : Int)) = false := decide_eq_false (by omega)
  have t3 : decide (m ≤ n) = true := decide_eq_true d3
  clear hx
  by_cases h : v ≤ a
  · have t4 : decide (v ≤ a) = true := decide_eq_true h
    clear d4
    go_enter Try.func13, Try.ntmps13
    go_wp2_with fail
    refine (awake03 _).mono ?_
    rintro e w1 ⟨rfl, hb1⟩
    have hz1 := hb1.size
    go_wp2_with fail
    refine (M1.out _).mono ?_
    rintro e w2 ⟨rfl, hb2⟩
    have hz2 := hb2.size
    go_wp2_with fail
    refine (M2.out _).mono ?_
    rintro e w3 ⟨rfl, hb3⟩
    have hz3 := hb3.size
    go_wp2_with fail
    refine (M3.out _).mono ?_
    rintro e w4 ⟨rfl, hb4⟩
    have hz4 := hb4.size
    go_wp2_with fail
    go_ret
    have B1 := hb1
    have B2 := B1.trans (hb2.mono (by omega))
    have B3 := B2.trans (hb3.mono (by omega))
    have B4 := B3.trans (hb4.mono (by omega))
    exact ⟨rfl, B4⟩
  · obtain rfl : n = -20 := d4.resolve_left h
    have t4 : decide (v ≤ a) = false := decide_eq_false h
    have h' : a < v := by omega
    clear h d3
    clear d4
    go_enter Try.func13, Try.ntmps13
    go_wp2_with fail
    refine (awake03 _).mono ?_
    rintro e w1 ⟨rfl, hb1⟩
    have hz1 := hb1.size
    go_wp2_with fail
    refine (M1.out _).mono ?_
    rintro e w2 ⟨rfl, hb2⟩
    have hz2 := hb2.size
    go_wp2_with fail
    refine (M2.out _).mono ?_
    rintro e w3 ⟨rfl, hb3⟩
    have hz3 := hb3.size
    go_wp2_with fail
    refine (M3.out _).mono ?_
    rintro e w4 ⟨rfl, hb4⟩
    have hz4 := hb4.size
    go_wp2_with fail
    go_ret
    have B1 := hb1
    have B2 := B1.trans (hb2.mono (by omega))
    have B3 := B2.trans (hb3.mono (by omega))
    have B4 := B3.trans (hb4.mono (by omega))
    exact ⟨rfl, B4⟩
end niceHolds

end Go.Proofs.Ytnpjacfefocjnaa
