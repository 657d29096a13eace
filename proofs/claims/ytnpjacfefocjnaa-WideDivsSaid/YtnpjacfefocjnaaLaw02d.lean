/-
  THE LAWS OF LAYER 2 (wide), the fourth part: for every input each returns true, and its input reads as it did. No conditions.
-/
import Derived.Test.YtnpjacfefocjnaaLaw02c
namespace Go.Proofs.Ytnpjacfefocjnaa
open Go.ChangeShapes Go.WideShapes Go.ChangeAt Go.RowKit

namespace wideOrder
theorem three (a b c d : Nat) : (cmpI a b c d = -1 ∧ cmpI c d a b = 1 ∧ cmpI b a d c = -1) ∨ (cmpI a b c d = 0 ∧ cmpI c d a b = 0 ∧ cmpI b a d c = 0) ∨ (cmpI a b c d = 1 ∧ cmpI c d a b = -1 ∧ cmpI b a d c = 1) := by
  rcases Nat.lt_trichotomy (a * b) (c * d) with h | h | h
  · exact .inl ⟨cmp_lt h, cmp_gt h, cmp_lt (by rw [Nat.mul_comm b, Nat.mul_comm d]; exact h)⟩
  · exact .inr (.inl ⟨cmp_eq h, cmp_eq h.symm, cmp_eq (by rw [Nat.mul_comm b, Nat.mul_comm d]; exact h)⟩)
  · exact .inr (.inr ⟨cmp_gt h, cmp_lt h, cmp_gt (by rw [Nat.mul_comm b, Nat.mul_comm d]; exact h)⟩)
theorem more (a b m : Nat) (h : b ≤ m) : cmpI a m a b = 0 ∨ cmpI a m a b = 1 := by
  have := Nat.mul_le_mul_left a h
  rcases Nat.lt_trichotomy (a * m) (a * b) with h | h | h
  · omega
  · exact .inl (cmp_eq h)
  · exact .inr (cmp_gt h)

set_option maxRecDepth 100000 in
set_option maxHeartbeats 1000000 in
theorem walk (a b c d : Nat) (ha : a < 18446744073709551616) (hb : b < 18446744073709551616) (hc : c < 18446744073709551616) (hd : d < 18446744073709551616) (w : World) :
    Calls Try.prog 8 #[.agg #[.int .u64 a, .int .u64 b, .int .u64 c, .int .u64 d]] w fun e w' => e = .returned (.bool true) ∧ Below w.heap.size w w' := by
  have m1 := fun W => compare_any a b c d ha hb hc hd W
  have m2 := fun W => compare_any c d a b hc hd ha hb W
  have m3 := fun W => compare_any b a d c hb ha hd hc W
  have m4 := fun W => compare_any a b b a ha hb hb ha W
  obtain ⟨m, hm⟩ : ∃ m, m = max b d := ⟨_, rfl⟩
  have hm1 : m < 18446744073709551616 := by omega
  have mx : max (b : Int) (d : Int) = (m : Int) := by omega
  have m5 := fun W => compare_any a m a b ha hm1 ha hb W
  rw [cmp_eq (Nat.mul_comm a b)] at m4
  have c1 := three a b c d
  have c5 := more a b m (by omega)
  clear hm
  rcases c1 with ⟨e1, e2, e3⟩ | ⟨e1, e2, e3⟩ | ⟨e1, e2, e3⟩ <;> rw [e1] at m1 <;> rw [e2] at m2 <;> rw [e3] at m3 <;> clear e1 e2 e3
  all_goals
    rcases c5 with e5 | e5 <;> rw [e5] at m5 <;> clear e5
    all_goals
      have M1 := Lib.hid m1
      have M2 := Lib.hid m2
      have M3 := Lib.hid m3
      have M4 := Lib.hid m4
      have M5 := Lib.hid m5
      clear m1 m2 m3 m4 m5
      go_enter Try.func8, Try.ntmps8
      go_wp2_with fail
      refine (awake02 _).mono ?_
      rintro e w1 ⟨rfl, hb1⟩
      have hz1 := hb1.size
      obtain ⟨hcell1, hfroz1⟩ := bcell hb1
      go_wp2_with fail
      refine (M1.out _).mono ?_
      rintro e w2 ⟨rfl, hb2⟩
      have hz2 := hb2.size
      obtain ⟨hcell2, hfroz2⟩ := bcell hb2
      go_wp2_with fail
      refine (M2.out _).mono ?_
      rintro e w3 ⟨rfl, hb3⟩
      have hz3 := hb3.size
      obtain ⟨hcell3, hfroz3⟩ := bcell hb3
      go_wp2_with fail
      refine (M3.out _).mono ?_
      rintro e w4 ⟨rfl, hb4⟩
      have hz4 := hb4.size
      obtain ⟨hcell4, hfroz4⟩ := bcell hb4
      go_wp2_with fail
      refine (M4.out _).mono ?_
      rintro e w5 ⟨rfl, hb5⟩
      have hz5 := hb5.size
      obtain ⟨hcell5, hfroz5⟩ := bcell hb5
      go_wp2_with fail
      refine (M5.out _).mono ?_
      rintro e w6 ⟨rfl, hb6⟩
      have hz6 := hb6.size
      obtain ⟨hcell6, hfroz6⟩ := bcell hb6
      go_wp2_with fail
      go_ret
      have B1 := ((Below.refl w.heap.size w).alloc (Nat.le_refl _) _).trans (hb1.mono (by simp))
      simp at hz1
      have B2 := B1.trans (hb2.mono (by omega))
      have B3 := B2.trans (hb3.mono (by omega))
      have B4 := B3.trans (hb4.mono (by omega))
      have B5 := B4.trans (hb5.mono (by omega))
      have B6 := B5.trans (hb6.mono (by omega))
      exact ⟨rfl, B6⟩
end wideOrder

namespace wideRises
theorem up_b (a b m c : Nat) (h : b ≤ m) (hm : mdOk a m c = true) : mdOk a b c = true ∧ mdQ a b c ≤ mdQ a m c := by
  have h1 : a * m < c * 18446744073709551616 := of_decide_eq_true hm
  have h2 : a * b ≤ a * m := Nat.mul_le_mul_left a h
  have h3 : a * b < c * 18446744073709551616 := by omega
  refine ⟨decide_eq_true h3, ?_⟩
  unfold mdQ
  rw [if_pos h1, if_pos h3]
  exact Nat.div_le_div_right h2
theorem up_c (a b c e : Nat) (hc : 0 < c) (h : c ≤ e) (hm : mdOk a b c = true) : mdOk a b e = true ∧ mdQ a b e ≤ mdQ a b c := by
  have h1 : a * b < c * 18446744073709551616 := of_decide_eq_true hm
  have h3 : a * b < e * 18446744073709551616 := Nat.lt_of_lt_of_le h1 (Nat.mul_le_mul_right _ h)
  refine ⟨decide_eq_true h3, ?_⟩
  unfold mdQ
  rw [if_pos h1, if_pos h3]
  exact Nat.div_le_div_left h hc

set_option maxRecDepth 100000 in
set_option maxHeartbeats 1000000 in
theorem walk (a b c d : Nat) (ha : a < 18446744073709551616) (hb : b < 18446744073709551616) (hc : c < 18446744073709551616) (hd : d < 18446744073709551616) (w : World) :
    Calls Try.prog 9 #[.agg #[.int .u64 a, .int .u64 b, .int .u64 c, .int .u64 d]] w fun e w' => e = .returned (.bool true) ∧ Below w.heap.size w w' := by
  obtain ⟨c1, hc1⟩ : ∃ m, m = max c 1 := ⟨_, rfl⟩
  obtain ⟨b2, hb2⟩ : ∃ m, m = max b d := ⟨_, rfl⟩
  obtain ⟨c3, hc3⟩ : ∃ m, m = max (max c d) 1 := ⟨_, rfl⟩
  have x1 : max (c : Int) 1 = (c1 : Int) := by omega
  have x2 : max (b : Int) (d : Int) = (b2 : Int) := by omega
  have y1 : c1 < 18446744073709551616 := by omega
  have y2 : b2 < 18446744073709551616 := by omega
  have y3 : c3 < 18446744073709551616 := by omega
  have m1 := fun W => mulDiv_any a b c1 ha hb y1 W
  have m2 := fun W => mulDiv_any a b2 c1 ha y2 y1 W
  have m3 := fun W => mulDiv_any a b c3 ha hb y3 W
  have u1 := up_b a b b2 c1 (by omega)
  have u2 := up_c a b c1 c3 (by omega) (by omega)
  have tri : (c = 0 ∧ d = 0 ∧ c1 = 1 ∧ c3 = 1 ∧ b2 = b) ∨ (1 ≤ c ∧ d ≤ c ∧ c1 = c ∧ c3 = c) ∨ (c < d ∧ 1 ≤ d ∧ c3 = d) := by omega
  clear hc1 hb2 hc3
  generalize mdOk a b c1 = O1 at *
  generalize mdOk a b2 c1 = O2 at *
  generalize mdOk a b c3 = O3 at *
  generalize mdQ a b c1 = Q1 at *
  generalize mdQ a b2 c1 = Q2 at *
  generalize mdQ a b c3 = Q3 at *
  generalize mdR a b c1 = R1 at *
  generalize mdR a b2 c1 = R2 at *
  generalize mdR a b c3 = R3 at *
  have cs : (O2 = true ∧ O1 = true ∧ O3 = true ∧ decide (Q1 ≤ Q2) = true ∧ decide (Q3 ≤ Q1) = true) ∨ (O2 = false ∧ O1 = true ∧ O3 = true ∧ decide (Q3 ≤ Q1) = true) ∨ (O2 = false ∧ O1 = false) := by
    cases O2
    · cases O1
      · exact .inr (.inr ⟨rfl, rfl⟩)
      · exact .inr (.inl ⟨rfl, rfl, (u2 rfl).1, decide_eq_true (u2 rfl).2⟩)
    · have h1 := u1 rfl
      exact .inl ⟨rfl, h1.1, (u2 h1.1).1, decide_eq_true h1.2, decide_eq_true (u2 h1.1).2⟩
  clear u1 u2
  rcases tri with ⟨rfl, rfl, rfl, rfl, rfl⟩ | ⟨t1, t2, rfl, rfl⟩ | ⟨t1, t2, rfl⟩
  · rcases cs with ⟨rfl, rfl, rfl, g1, g2⟩ | ⟨rfl, rfl, rfl, g2⟩ | ⟨rfl, rfl⟩
    all_goals
      have M1 := Lib.hid m1
      have M2 := Lib.hid m2
      have M3 := Lib.hid m3
      clear m1 m2 m3 x1 x2
      go_enter Try.func9, Try.ntmps9
      go_wp2_with fail
      refine (awake02 _).mono ?_
      rintro e w1 ⟨rfl, hb1⟩
      have hz1 := hb1.size
      obtain ⟨hcell1, hfroz1⟩ := bcell hb1
      go_wp2_with fail
      refine (M1.out _).mono ?_
      rintro e w2 ⟨rfl, hb2⟩
      have hz2 := hb2.size
      obtain ⟨hcell2, hfroz2⟩ := bcell hb2
      go_wp2_with fail
      refine (M2.out _).mono ?_
      rintro e w3 ⟨rfl, hb3⟩
      have hz3 := hb3.size
      obtain ⟨hcell3, hfroz3⟩ := bcell hb3
      go_wp2_with fail
      refine (M3.out _).mono ?_
      rintro e w4 ⟨rfl, hb4⟩
      have hz4 := hb4.size
      obtain ⟨hcell4, hfroz4⟩ := bcell hb4
      go_wp2_with fail
      go_ret
      have B1 := ((Below.refl w.heap.size w).alloc (Nat.le_refl _) _).trans (hb1.mono (by simp))
      simp at hz1
      have B2 := B1.trans (hb2.mono (by omega))
      have B3 := B2.trans (hb3.mono (by omega))
      have B4 := B3.trans (hb4.mono (by omega))
      exact ⟨rfl, B4⟩
  · have z1 : max (c3 : Int) (max (d : Int) 1) = (c3 : Int) := by omega
    have z2 : max (c3 : Int) (d : Int) = (c3 : Int) := by omega
    have z3 : max (max (c3 : Int) (d : Int)) 1 = (c3 : Int) := by omega
    rcases cs with ⟨rfl, rfl, rfl, g1, g2⟩ | ⟨rfl, rfl, rfl, g2⟩ | ⟨rfl, rfl⟩
    all_goals
      have M1 := Lib.hid m1
      have M2 := Lib.hid m2
      have M3 := Lib.hid m3
      clear m1 m2 m3
      go_enter Try.func9, Try.ntmps9
      go_wp2_with fail
      refine (awake02 _).mono ?_
      rintro e w1 ⟨rfl, hb1⟩
      have hz1 := hb1.size
      obtain ⟨hcell1, hfroz1⟩ := bcell hb1
      go_wp2_with fail
      refine (M1.out _).mono ?_
      rintro e w2 ⟨rfl, hb2⟩
      have hz2 := hb2.size
      obtain ⟨hcell2, hfroz2⟩ := bcell hb2
      go_wp2_with fail
      refine (M2.out _).mono ?_
      rintro e w3 ⟨rfl, hb3⟩
      have hz3 := hb3.size
      obtain ⟨hcell3, hfroz3⟩ := bcell hb3
      go_wp2_with fail
      refine (M3.out _).mono ?_
      rintro e w4 ⟨rfl, hb4⟩
      have hz4 := hb4.size
      obtain ⟨hcell4, hfroz4⟩ := bcell hb4
      go_wp2_with fail
      go_ret
      have B1 := ((Below.refl w.heap.size w).alloc (Nat.le_refl _) _).trans (hb1.mono (by simp))
      simp at hz1
      have B2 := B1.trans (hb2.mono (by omega))
      have B3 := B2.trans (hb3.mono (by omega))
      have B4 := B3.trans (hb4.mono (by omega))
      exact ⟨rfl, B4⟩
  · have z1 : max (c : Int) (max (c3 : Int) 1) = (c3 : Int) := by omega
    have z2 : max (c : Int) (c3 : Int) = (c3 : Int) := by omega
    have z3 : max (c3 : Int) 1 = (c3 : Int) := by omega
    have z4 : max (max (c : Int) (c3 : Int)) 1 = (c3 : Int) := by omega
    rcases cs with ⟨rfl, rfl, rfl, g1, g2⟩ | ⟨rfl, rfl, rfl, g2⟩ | ⟨rfl, rfl⟩
    all_goals
      have M1 := Lib.hid m1
      have M2 := Lib.hid m2
      have M3 := Lib.hid m3
      clear m1 m2 m3
      go_enter Try.func9, Try.ntmps9
      go_wp2_with fail
      refine (awake02 _).mono ?_
      rintro e w1 ⟨rfl, hb1⟩
      have hz1 := hb1.size
      obtain ⟨hcell1, hfroz1⟩ := bcell hb1
      go_wp2_with fail
      refine (M1.out _).mono ?_
      rintro e w2 ⟨rfl, hb2⟩
      have hz2 := hb2.size
      obtain ⟨hcell2, hfroz2⟩ := bcell hb2
      go_wp2_with fail
      refine (M2.out _).mono ?_
      rintro e w3 ⟨rfl, hb3⟩
      have hz3 := hb3.size
      obtain ⟨hcell3, hfroz3⟩ := bcell hb3
      go_wp2_with fail
      refine (M3.out _).mono ?_
      rintro e w4 ⟨rfl, hb4⟩
      have hz4 := hb4.size
      obtain ⟨hcell4, hfroz4⟩ := bcell hb4
      go_wp2_with fail
      go_ret
      have B1 := ((Below.refl w.heap.size w).alloc (Nat.le_refl _) _).trans (hb1.mono (by simp))
      simp at hz1
      have B2 := B1.trans (hb2.mono (by omega))
      have B3 := B2.trans (hb3.mono (by omega))
      have B4 := B3.trans (hb4.mono (by omega))
      exact ⟨rfl, B4⟩
end wideRises

namespace wideDivs
set_option maxRecDepth 100000 in
set_option maxHeartbeats 1000000 in
theorem walk (a b c d : Nat) (ha : a < 18446744073709551616) (hb : b < 18446744073709551616) (hc : c < 18446744073709551616) (hd : d < 18446744073709551616) (w : World) :
    Calls Try.prog 3 #[.agg #[.int .u64 a, .int .u64 b, .int .u64 c, .int .u64 d]] w fun e w' => e = .returned (.bool true) ∧ Below w.heap.size w w' := by
  have m1 := fun W => mulDiv_any a b c ha hb hc W
  have m2 := fun W => (refMulDiv_any a b c ha hb hc W).mono (R' := fun e w' => e = .returned (.tuple #[.int .u64 (mdQ a b c : Nat), .int .u64 (mdR a b c : Nat), .bool (mdOk a b c)]) ∧ Below W.heap.size W w') fun _ _ ⟨h, h2⟩ => ⟨h, h2 ▸ Below.refl _ _⟩
  have m3 := fun W => up_any a b c ha hb hc W
  have m4 := fun W => (refUp_any a b c ha hb hc W).mono (R' := fun e w' => e = .returned (.tuple #[.int .u64 (upV a b c : Nat), .bool (upOk a b c)]) ∧ Below W.heap.size W w') fun _ _ ⟨h, h2⟩ => ⟨h, h2 ▸ Below.refl _ _⟩
  have m5 := fun W => compare_any a b c d ha hb hc hd W
  have m6 := fun W => (refCompare_any a b c d ha hb hc hd W).mono (R' := fun e w' => e = .returned (.int .i64 (cmpI a b c d)) ∧ Below W.heap.size W w') fun _ _ ⟨h, h2⟩ => ⟨h, h2 ▸ Below.refl _ _⟩
  generalize mdQ a b c = q at *
  generalize mdR a b c = r at *
  generalize mdOk a b c = o at *
  generalize upV a b c = u at *
  generalize upOk a b c = p at *
  generalize cmpI a b c d = x at *
  have M1 := Lib.hid m1
  have M2 := Lib.hid m2
  have M3 := Lib.hid m3
  have M4 := Lib.hid m4
  have M5 := Lib.hid m5
  have M6 := Lib.hid m6
  clear m1 m2 m3 m4 m5 m6
  cases o <;> cases p
  all_goals
    go_enter Try.func3, Try.ntmps3
    go_wp2_with fail
    refine (awake02 _).mono ?_
    rintro e w1 ⟨rfl, hb1⟩
    have hz1 := hb1.size
    obtain ⟨hcell1, hfroz1⟩ := bcell hb1
    go_wp2_with fail
    refine (M1.out _).mono ?_
    rintro e w2 ⟨rfl, hb2⟩
    have hz2 := hb2.size
    obtain ⟨hcell2, hfroz2⟩ := bcell hb2
    go_wp2_with fail
    refine (M2.out _).mono ?_
    rintro e w3 ⟨rfl, hb3⟩
    have hz3 := hb3.size
    obtain ⟨hcell3, hfroz3⟩ := bcell hb3
    go_wp2_with fail
    refine (M3.out _).mono ?_
    rintro e w4 ⟨rfl, hb4⟩
    have hz4 := hb4.size
    obtain ⟨hcell4, hfroz4⟩ := bcell hb4
    go_wp2_with fail
    refine (M4.out _).mono ?_
    rintro e w5 ⟨rfl, hb5⟩
    have hz5 := hb5.size
    obtain ⟨hcell5, hfroz5⟩ := bcell hb5
    go_wp2_with fail
    refine (M5.out _).mono ?_
    rintro e w6 ⟨rfl, hb6⟩
    have hz6 := hb6.size
    obtain ⟨hcell6, hfroz6⟩ := bcell hb6
    go_wp2_with fail
    refine (M6.out _).mono ?_
    rintro e w7 ⟨rfl, hb7⟩
    have hz7 := hb7.size
    obtain ⟨hcell7, hfroz7⟩ := bcell hb7
    go_wp2_with fail
    go_ret
    have B1 := ((Below.refl w.heap.size w).alloc (Nat.le_refl _) _).trans (hb1.mono (by simp))
    simp at hz1
    have B2 := B1.trans (hb2.mono (by omega))
    have B3 := B2.trans (hb3.mono (by omega))
    have B4 := B3.trans (hb4.mono (by omega))
    have B5 := B4.trans (hb5.mono (by omega))
    have B6 := B5.trans (hb6.mono (by omega))
    have B7 := B6.trans (hb7.mono (by omega))
    exact ⟨rfl, B7⟩
end wideDivs

end Go.Proofs.Ytnpjacfefocjnaa
