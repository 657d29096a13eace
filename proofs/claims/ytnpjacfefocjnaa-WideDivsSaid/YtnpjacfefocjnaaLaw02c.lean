/-
  THE LAWS OF LAYER 2 (wide), the third part: for every input each returns true, and its input reads as it did. No conditions.
-/
import Derived.Test.YtnpjacfefocjnaaLaw02b
namespace Go.Proofs.Ytnpjacfefocjnaa
open Go.ChangeShapes Go.WideShapes Go.ChangeAt Go.RowKit

theorem md_zero (a b : Nat) : mdQ a b 0 = 0 ∧ mdR a b 0 = 0 ∧ mdOk a b 0 = false := by simp [mdQ, mdR, mdOk]
theorem up_zero (a b : Nat) : upV a b 0 = 0 ∧ upOk a b 0 = false := by simp [upV, upOk, mdOk]

namespace wideOnes
theorem last (a c : Nat) (ha : a < 18446744073709551616) (hc : 0 < c) : mdQ a c c = a ∧ mdR a c c = 0 ∧ mdOk a c c = true := by
  have h : a * c < c * 18446744073709551616 := by rw [Nat.mul_comm]; exact Nat.mul_lt_mul_of_pos_left ha hc
  refine ⟨(if_pos h).trans (Nat.mul_div_cancel _ hc), (if_pos h).trans (by simp), decide_eq_true h⟩
set_option maxHeartbeats 400000 in
theorem walk (a c : Nat) (ha : a < 18446744073709551616) (hc : c < 18446744073709551616) (w : World) :
    Calls Try.prog 6 #[.int .u64 a, .int .u64 c] w fun e w' => e = .returned (.bool true) ∧ Below w.heap.size w w' := by
  have m1 := fun W => mulDiv_any a c 0 ha hc (by omega) W
  have m2 := fun W => up_any a c 0 ha hc (by omega) W
  have m3 := fun W => mulDiv_any a c 1 ha hc (by omega) W
  have m4 := fun W => compare_any a c 4294967296 4294967296 ha hc (by omega) (by omega) W
  have m5 := fun W => mulDiv_any a c c ha hc hc W
  rw [(md_zero a c).1, (md_zero a c).2.1, (md_zero a c).2.2] at m1
  rw [(up_zero a c).1, (up_zero a c).2] at m2
  have mm : IntKind.u64.wrap ((a : Int) * (c : Int)) = ((a * c % 18446744073709551616 : Nat) : Int) := by rw [mulN, Mul64.wrapM]
  have big : (a * c < 18446744073709551616 ∧ mdQ a c 1 = a * c ∧ mdR a c 1 = 0 ∧ mdOk a c 1 = true ∧ cmpI a c 4294967296 4294967296 = -1) ∨
      (mdQ a c 1 = 0 ∧ mdR a c 1 = 0 ∧ mdOk a c 1 = false ∧ (cmpI a c 4294967296 4294967296 = 0 ∨ cmpI a c 4294967296 4294967296 = 1)) := by
    by_cases h : a * c < 18446744073709551616
    · exact .inl ⟨h, (if_pos (by omega)).trans (Nat.div_one _), (if_pos (by omega)).trans (Nat.mod_one _), decide_eq_true (by omega), cmp_lt (by omega)⟩
    · refine .inr ⟨if_neg (by omega), if_neg (by omega), decide_eq_false (by omega), ?_⟩
      rcases Nat.lt_trichotomy (a * c) 18446744073709551616 with h2 | h2 | h2
      · omega
      · exact .inl (cmp_eq (by omega))
      · exact .inr (cmp_gt (by omega))
  have mm2 : a * c < 18446744073709551616 → IntKind.u64.wrap ((a : Int) * (c : Int)) = ((a * c : Nat) : Int) := fun h => by rw [mulN]; exact wrapNat _ h
  have lst := last a c ha
  have split5 : (c = 0 ∧ mdOk a c c = false ∧ mdQ a c c = 0 ∧ mdR a c c = 0) ∨ (((c : Int) == 0) = false ∧ mdQ a c c = a ∧ mdR a c c = 0 ∧ mdOk a c c = true) := by
    rcases Nat.eq_zero_or_pos c with rfl | h
    · exact .inl ⟨rfl, by simp [mdOk], by simp [mdQ], by simp [mdR]⟩
    · exact .inr ⟨by simp; omega, lst h⟩
  clear lst
  rcases big with ⟨h1, h2, h3, h4, h5⟩ | ⟨h2, h3, h4, h5⟩
  · have mm3 := mm2 h1
    rw [h2, h3, h4] at m3
    rw [h5] at m4
    clear mm mm2 h2 h3 h4 h5
    rcases split5 with ⟨rfl, s1, s2, s3⟩ | ⟨s0, s2, s3, s1⟩
    · rw [s1, s2, s3] at m5
      rw [Nat.mul_zero] at m3 mm3
      have M1 := Lib.hid m1
      have M2 := Lib.hid m2
      have M3 := Lib.hid m3
      have M4 := Lib.hid m4
      have M5 := Lib.hid m5
      clear m1 m2 m3 m4 m5 s1 s2 s3 mm3
      go_enter Try.func6, Try.ntmps6
      go_wp2_with fail
      refine (awake02 _).mono ?_
      rintro e w1 ⟨rfl, hb1⟩
      have hz1 := hb1.size
      go_wp2_with fail
      refine (M1.out _).mono ?_
      rintro e w2 ⟨rfl, hb2⟩
      have hz2 := hb2.size
      go_wp2_with fail
      refine (M2.out _).mono ?_
      rintro e w3 ⟨rfl, hb3⟩
      have hz3 := hb3.size
      go_wp2_with fail
      refine (M3.out _).mono ?_
      rintro e w4 ⟨rfl, hb4⟩
      have hz4 := hb4.size
      go_wp2_with fail
      refine (M4.out _).mono ?_
      rintro e w5 ⟨rfl, hb5⟩
      have hz5 := hb5.size
      go_wp2_with fail
      refine (M5.out _).mono ?_
      rintro e w6 ⟨rfl, hb6⟩
      have hz6 := hb6.size
      go_wp2_with fail
      go_ret
      have B1 := hb1
      have B2 := B1.trans (hb2.mono (by omega))
      have B3 := B2.trans (hb3.mono (by omega))
      have B4 := B3.trans (hb4.mono (by omega))
      have B5 := B4.trans (hb5.mono (by omega))
      have B6 := B5.trans (hb6.mono (by omega))
      exact ⟨rfl, B6⟩
    · rw [s1, s2, s3] at m5
      generalize a * c = P at *
      have M1 := Lib.hid m1
      have M2 := Lib.hid m2
      have M3 := Lib.hid m3
      have M4 := Lib.hid m4
      have M5 := Lib.hid m5
      clear m1 m2 m3 m4 m5 s1 s2 s3
      go_enter Try.func6, Try.ntmps6
      go_wp2_with fail
      refine (awake02 _).mono ?_
      rintro e w1 ⟨rfl, hb1⟩
      have hz1 := hb1.size
      go_wp2_with fail
      refine (M1.out _).mono ?_
      rintro e w2 ⟨rfl, hb2⟩
      have hz2 := hb2.size
      go_wp2_with fail
      refine (M2.out _).mono ?_
      rintro e w3 ⟨rfl, hb3⟩
      have hz3 := hb3.size
      go_wp2_with fail
      refine (M3.out _).mono ?_
      rintro e w4 ⟨rfl, hb4⟩
      have hz4 := hb4.size
      go_wp2_with fail
      refine (M4.out _).mono ?_
      rintro e w5 ⟨rfl, hb5⟩
      have hz5 := hb5.size
      go_wp2_with fail
      refine (M5.out _).mono ?_
      rintro e w6 ⟨rfl, hb6⟩
      have hz6 := hb6.size
      go_wp2_with fail
      go_ret
      have B1 := hb1
      have B2 := B1.trans (hb2.mono (by omega))
      have B3 := B2.trans (hb3.mono (by omega))
      have B4 := B3.trans (hb4.mono (by omega))
      have B5 := B4.trans (hb5.mono (by omega))
      have B6 := B5.trans (hb6.mono (by omega))
      exact ⟨rfl, B6⟩
  · rw [h2, h3, h4] at m3
    clear mm mm2 h2 h3 h4
    rcases h5 with h5 | h5 <;> rw [h5] at m4 <;> clear h5
    all_goals
      rcases split5 with ⟨rfl, s1, s2, s3⟩ | ⟨s0, s2, s3, s1⟩
      all_goals
        rw [s1, s2, s3] at m5
        have M1 := Lib.hid m1
        have M2 := Lib.hid m2
        have M3 := Lib.hid m3
        have M4 := Lib.hid m4
        have M5 := Lib.hid m5
        clear m1 m2 m3 m4 m5 s1 s2 s3
        go_enter Try.func6, Try.ntmps6
        go_wp2_with fail
        refine (awake02 _).mono ?_
        rintro e w1 ⟨rfl, hb1⟩
        have hz1 := hb1.size
        go_wp2_with fail
        refine (M1.out _).mono ?_
        rintro e w2 ⟨rfl, hb2⟩
        have hz2 := hb2.size
        go_wp2_with fail
        refine (M2.out _).mono ?_
        rintro e w3 ⟨rfl, hb3⟩
        have hz3 := hb3.size
        go_wp2_with fail
        refine (M3.out _).mono ?_
        rintro e w4 ⟨rfl, hb4⟩
        have hz4 := hb4.size
        go_wp2_with fail
        refine (M4.out _).mono ?_
        rintro e w5 ⟨rfl, hb5⟩
        have hz5 := hb5.size
        go_wp2_with fail
        refine (M5.out _).mono ?_
        rintro e w6 ⟨rfl, hb6⟩
        have hz6 := hb6.size
        go_wp2_with fail
        go_ret
        have B1 := hb1
        have B2 := B1.trans (hb2.mono (by omega))
        have B3 := B2.trans (hb3.mono (by omega))
        have B4 := B3.trans (hb4.mono (by omega))
        have B5 := B4.trans (hb5.mono (by omega))
        have B6 := B5.trans (hb6.mono (by omega))
        exact ⟨rfl, B6⟩
end wideOnes

namespace wideSmall
set_option maxHeartbeats 400000 in
theorem walk (a b c : Nat) (ha : a < 4294967296) (hb : b < 4294967296) (hc : c < 4294967296) (w : World) :
    Calls Try.prog 7 #[.int .u32 a, .int .u32 b, .int .u32 c] w fun e w' => e = .returned (.bool true) ∧ Below w.heap.size w w' := by
  have ha' : a < 18446744073709551616 := by omega
  have hb' : b < 18446744073709551616 := by omega
  have hc' : c < 18446744073709551616 := by omega
  have m1 := fun W => mulDiv_any a b c ha' hb' hc' W
  have m2 := fun W => compare_any a b c 1 ha' hb' hc' (by omega) W
  have hP : a * b < 18446744073709551616 := Nat.mul_lt_mul'' ha hb
  have mm : IntKind.u64.wrap ((a : Int) * (b : Int)) = ((a * b : Nat) : Int) := by rw [mulN]; exact wrapNat _ (by omega)
  rcases Nat.eq_zero_or_pos c with rfl | hc0
  · rw [(md_zero a b).1, (md_zero a b).2.1, (md_zero a b).2.2] at m1
    have M1 := Lib.hid m1
    clear m1 m2
    generalize a * b = P at *
    go_enter Try.func7, Try.ntmps7
    go_wp2_with fail
    refine (awake02 _).mono ?_
    rintro e w1 ⟨rfl, hb1⟩
    have hz1 := hb1.size
    go_wp2_with fail
    refine (M1.out _).mono ?_
    rintro e w2 ⟨rfl, hb2⟩
    have hz2 := hb2.size
    go_wp2_with fail
    go_ret
    have B1 := hb1
    have B2 := B1.trans (hb2.mono (by omega))
    exact ⟨rfl, B2⟩
  · have hok : a * b < c * 18446744073709551616 := by
      omega
    have e1 : mdQ a b c = a * b / c := if_pos hok
    have e2 : mdR a b c = a * b % c := if_pos hok
    have e3 : mdOk a b c = true := decide_eq_true hok
    rw [e1, e2, e3] at m1
    have hlt : (decide (a * b < c) = true ∧ decide ((((a * b : Nat)) : Int) < (c : Int)) = true ∧ cmpI a b c 1 = -1) ∨ (decide (a * b < c) = false ∧ decide ((((a * b : Nat)) : Int) < (c : Int)) = false ∧ (cmpI a b c 1 = 0 ∨ cmpI a b c 1 = 1)) := by
      by_cases h : a * b < c
      · exact .inl ⟨decide_eq_true h, decide_eq_true (by omega), cmp_lt (by omega)⟩
      · refine .inr ⟨decide_eq_false h, decide_eq_false (by omega), ?_⟩
        rcases Nat.lt_trichotomy (a * b) c with h2 | h2 | h2
        · omega
        · exact .inl (cmp_eq (by omega))
        · exact .inr (cmp_gt (by omega))
    clear e1 e2 e3 hok
    generalize a * b = P at *
    have c0 : ((c : Int) == 0) = false := by simp; omega
    have d1 : (P : Int) / (c : Int) = ((P / c : Nat) : Int) := (Int.natCast_ediv _ _).symm
    have d2 : (P : Int) % (c : Int) = ((P % c : Nat) : Int) := (Int.natCast_emod _ _).symm
    have d3 : P / c < 18446744073709551616 := Nat.lt_of_le_of_lt (Nat.div_le_self P c) hP
    have d4 : IntKind.u64.wrap ((P / c : Nat) : Int) = ((P / c : Nat) : Int) := wrapNat _ d3
    generalize P / c = Q at *
    generalize P % c = R at *
    have M1 := Lib.hid m1
    clear m1
    rcases hlt with ⟨g1, g2, h5⟩ | ⟨g1, g2, h5⟩
    · rw [h5] at m2
      have M2 := Lib.hid m2
      clear m2 h5
      go_enter Try.func7, Try.ntmps7
      go_wp2_with fail
      refine (awake02 _).mono ?_
      rintro e w1 ⟨rfl, hb1⟩
      have hz1 := hb1.size
      go_wp2_with fail
      refine (M1.out _).mono ?_
      rintro e w2 ⟨rfl, hb2⟩
      have hz2 := hb2.size
      go_wp2_with fail
      refine (M2.out _).mono ?_
      rintro e w3 ⟨rfl, hb3⟩
      have hz3 := hb3.size
      go_wp2_with fail
      go_ret
      have B1 := hb1
      have B2 := B1.trans (hb2.mono (by omega))
      have B3 := B2.trans (hb3.mono (by omega))
      exact ⟨rfl, B3⟩
    · rcases h5 with h5 | h5 <;> rw [h5] at m2 <;> clear h5
      all_goals
        have M2 := Lib.hid m2
        clear m2
        go_enter Try.func7, Try.ntmps7
        go_wp2_with fail
        refine (awake02 _).mono ?_
        rintro e w1 ⟨rfl, hb1⟩
        have hz1 := hb1.size
        go_wp2_with fail
        refine (M1.out _).mono ?_
        rintro e w2 ⟨rfl, hb2⟩
        have hz2 := hb2.size
        go_wp2_with fail
        refine (M2.out _).mono ?_
        rintro e w3 ⟨rfl, hb3⟩
        have hz3 := hb3.size
        go_wp2_with fail
        go_ret
        have B1 := hb1
        have B2 := B1.trans (hb2.mono (by omega))
        have B3 := B2.trans (hb3.mono (by omega))
        exact ⟨rfl, B3⟩
end wideSmall

end Go.Proofs.Ytnpjacfefocjnaa
