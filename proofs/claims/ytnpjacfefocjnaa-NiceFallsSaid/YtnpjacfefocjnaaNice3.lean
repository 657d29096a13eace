/-
  doleref03.Nearest: what it computes.
-/
import Derived.Test.YtnpjacfefocjnaaNice2
namespace Go.Proofs.Ytnpjacfefocjnaa
open Go.RowKit

/-- the search from the top down, k rounds still to go -/
def down (v : Nat) : Nat → Int
  | 0 => -20
  | k + 1 => if v ≤ wgt ((k : Int) - 19) then (k : Int) - 19 else down v k

set_option maxRecDepth 100000 in
set_option maxHeartbeats 400000 in
theorem refNearest_any (v : Nat) (hv : v < 18446744073709551616) (w : World) :
    Calls Try.prog 45 #[.int .u64 v] w fun e w' => e = .returned (.int .i64 (down v 39)) ∧ Below w.heap.size w w' := by
  have m1 := fun n h1 h2 W => refNweight_yes n h1 h2 W
  obtain ⟨R, hR⟩ : ∃ R, R = down v 39 := ⟨_, rfl⟩
  rw [← hR]
  have HR := Lib.hid hR
  clear hR
  have M1 := Lib.hid m1
  clear m1
  go_enter Try.func45, Try.ntmps45
  go_wp2_with fail
  go_loopw [3, 4, 5] (fun s3 s4 s5 wr => ∃ (j : Nat) (i : Int), j ≤ 39 ∧ Hid (i = (j : Int) - 20) ∧ s3 = .int .i64 i ∧ Hid (down v j = R) ∧ Below w.heap.size w wr) (fun s3 _ _ _ => (intOf s3 + 20).toNat)
  case atStart => exact ⟨39, 19, by omega, by simp [Hid], rfl, HR.out.symm, Below.refl _ _⟩
  case round =>
    obtain ⟨j, i, hj, HI, rfl, HD, hB⟩ := hrel
    have hi := HI.out
    have hd := HD.out
    cases j with
    | zero =>
      obtain rfl : i = -20 := by omega
      obtain rfl : (-20 : Int) = R := hd
      clear hi HD HI HR
      go_wp2_with fail
      go_ret
      exact ⟨rfl, hB⟩
    | succ j =>
      obtain rfl : i = (j : Int) - 19 := by omega
      have q1 := fun W => M1.out ((j : Int) - 19) (by omega) (by omega) W
      have hd2 : (if v ≤ wgt ((j : Int) - 19) then (j : Int) - 19 else down v j) = R := hd
      generalize hx : wgt ((j : Int) - 19) = x at *
      generalize hi' : (j : Int) - 19 = i at *
      have HI2 : Hid (i - 1 = (j : Int) - 20) := Lib.hid (by omega)
      have Q1 := Lib.hid q1
      have z0 : decide (-20 < i) = true := decide_eq_true (by omega)
      have c1 : -20 ≤ i := by omega
      have c2 : i ≤ 19 := by omega
      clear hi hd HD HI M1 hx q1
      by_cases hle : v ≤ x
      · have z1 : decide (v ≤ x) = true := decide_eq_true hle
        have z2 : decide ((v : Int) ≤ (x : Int)) = true := decide_eq_true (by omega)
        rw [if_pos hle] at hd2
        subst hd2
        clear hi' HI2 HR
        go_wp2_with fail
        refine (Q1.out _).mono ?_
        rintro e w1 ⟨rfl, hb1⟩
        go_wp2_with fail
        go_ret
        exact ⟨rfl, hB.trans (hb1.mono hB.size)⟩
      · have z1 : decide (v ≤ x) = false := decide_eq_false hle
        have z2 : decide ((v : Int) ≤ (x : Int)) = false := decide_eq_false (by omega)
        rw [if_neg hle] at hd2
        have HD2 := Lib.hid hd2
        clear hi' hd2
        go_wp2_with fail
        refine (Q1.out _).mono ?_
        rintro e w1 ⟨rfl, hb1⟩
        go_wp2_with fail
        go_roundw
        case rel => exact ⟨j, i - 1, by omega, HI2, by go_num, HD2, hB.trans (hb1.mono hB.size)⟩
        case measure => have := HI2.out; simp [intOf]; omega

end Go.Proofs.Ytnpjacfefocjnaa
