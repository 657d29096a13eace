/-
  share.Hold, Weight and the document's: what they compute.
-/
import Derived.Test.YtkemhcokkaanfaaDiv11
namespace Go.Proofs.Ytkemhcokkaanfaa
open Go.RowKit

def holdN (w : Nat) : Nat := min (max w 2) 262144
def wgtN (shares here all : Nat) : Nat := if all = 0 then 2 else if mdOk shares here all = true then holdN (mdQ shares here all) else 262144
theorem holdN_le (w : Nat) : 2 ≤ holdN w ∧ holdN w ≤ 262144 := by unfold holdN; omega
theorem wgtN_le (s h a : Nat) : 2 ≤ wgtN s h a ∧ wgtN s h a ≤ 262144 := by
  unfold wgtN
  split
  · omega
  · split
    · exact holdN_le _
    · omega

set_option maxHeartbeats 400000 in
theorem hold_any (w0 : Nat) (w : World) :
    Calls Try.prog 75 #[.int .u64 w0] w fun e w' => e = .returned (.int .u64 (holdN w0 : Nat)) ∧ w = w' := by
  obtain ⟨m, hm⟩ : ∃ m, m = max w0 2 := ⟨_, rfl⟩
  have e1 : max (w0 : Int) 2 = (m : Int) := by omega
  have e2 : min (m : Int) 262144 = (holdN w0 : Int) := by unfold holdN; omega
  generalize holdN w0 = h at *
  clear hm
  go_enter Try.func75, Try.ntmps75
  go_wp2_with fail
  go_ret
  exact ⟨rfl, rfl⟩

theorem hold_b (w0 : Nat) (w : World) : Calls Try.prog 75 #[.int .u64 w0] w fun e w' => e = .returned (.int .u64 (holdN w0 : Nat)) ∧ Below w.heap.size w w' := (hold_any w0 w).mono fun _ _ ⟨h, h2⟩ => ⟨h, h2 ▸ Below.refl _ _⟩
set_option maxHeartbeats 400000 in
theorem weight_any (s h a : Nat) (hs : s < 18446744073709551616) (hh : h < 18446744073709551616) (ha : a < 18446744073709551616) (w : World) :
    Calls Try.prog 79 #[.int .u64 s, .int .u64 h, .int .u64 a] w fun e w' => e = .returned (.int .u64 (wgtN s h a : Nat)) ∧ Below w.heap.size w w' := by
  rcases Nat.eq_zero_or_pos a with rfl | ha0
  · have e : wgtN s h 0 = 2 := if_pos rfl
    rw [e]
    clear e
    go_enter Try.func79, Try.ntmps79
    go_wp2_with fail
    go_ret
    exact ⟨rfl, Below.refl _ _⟩
  · have a0 : ((a : Int) == 0) = false := by simp; omega
    have m1 := fun W => mulDiv_any s h a hs hh ha W
    have m2 := fun W => hold_b (mdQ s h a) W
    unfold wgtN
    rw [if_neg (show ¬ a = 0 by omega)]
    generalize holdN (mdQ s h a) = H at *
    generalize mdQ s h a = Q at *
    generalize mdR s h a = R at *
    generalize mdOk s h a = O at *
    have M1 := Lib.hid m1
    have M2 := Lib.hid m2
    clear m1 m2
    cases O
    · rw [if_neg (show ¬ false = true by simp)]
      go_enter Try.func79, Try.ntmps79
      go_wp2_with fail
      refine (M1.out _).mono ?_
      rintro e w1 ⟨rfl, hb1⟩
      have hz1 := hb1.size
      go_wp2_with fail
      go_ret
      have B1 := hb1
      exact ⟨rfl, B1⟩
    · rw [if_pos rfl]
      go_enter Try.func79, Try.ntmps79
      go_wp2_with fail
      refine (M1.out _).mono ?_
      rintro e w1 ⟨rfl, hb1⟩
      have hz1 := hb1.size
      go_wp2_with fail
      refine (M2.out _).mono ?_
      rintro e w2 ⟨rfl, hb2⟩
      have hz2 := hb2.size
      go_wp2_with fail
      go_ret
      have B1 := hb1
      have B2 := B1.trans (hb2.mono (by omega))
      exact ⟨rfl, B2⟩

end Go.Proofs.Ytkemhcokkaanfaa
