/-
  wide.MulDiv, wide.Up, wide.Compare: what they compute.
-/
import Derived.Test.YtkemhcokkaanfaaDivAny
import Derived.BigGuardPart
namespace Go.Proofs.Ytkemhcokkaanfaa
open Go.RowKit

theorem div64_any (h l c : Nat) (hl : l < 18446744073709551616) (hc : c < 18446744073709551616) (hh : h < c) (w : World) :
    Calls Try.prog 97 #[.int .u64 h, .int .u64 l, .int .u64 c] w fun e w' => e = .returned (.tuple #[.int .u64 (quo64 h l c : Nat), .int .u64 (rem64 h l c : Nat)]) ∧ Below w.heap.size w w' := by
  rcases Nat.eq_zero_or_pos h with rfl | hp
  · refine (div64_zero l c hl hc hh w).mono ?_
    rintro e w' ⟨rfl, n, rfl⟩
    exact ⟨rfl, ⟨rfl, rfl, rfl, Nat.le_refl _, fun _ _ => rfl⟩⟩
  · refine (div64_pos h l c hl hc hp hh w).mono ?_
    rintro e w' ⟨rfl, rfl⟩
    exact ⟨rfl, Below.refl _ _⟩

theorem bcell {W w1 : World} (hb : Below W.heap.size W w1) : (∀ b o, b < W.heap.size → w1.cell? ⟨b, o, none⟩ = W.cell? ⟨b, o, none⟩) ∧ (∀ b o, b < W.heap.size → w1.frozen? ⟨b, o, none⟩ = W.frozen? ⟨b, o, none⟩) :=
  ⟨fun b o h => hb.cell (p := ⟨b, o, none⟩) h, fun b o h => hb.frozen (p := ⟨b, o, none⟩) h⟩

/-- a times b, divided by c -/
def mdOk (a b c : Nat) : Bool := decide (a * b < c * 18446744073709551616)
def mdQ (a b c : Nat) : Nat := if a * b < c * 18446744073709551616 then a * b / c else 0
def mdR (a b c : Nat) : Nat := if a * b < c * 18446744073709551616 then a * b % c else 0

theorem hi_lt_iff (a b c : Nat) : hi64 a b < c ↔ a * b < c * 18446744073709551616 := by
  unfold hi64; exact Nat.div_lt_iff_lt_mul (by omega)

set_option maxHeartbeats 400000 in
theorem mulDiv_any (a b c : Nat) (ha : a < 18446744073709551616) (hb : b < 18446744073709551616) (hc : c < 18446744073709551616) (w : World) :
    Calls Try.prog 46 #[.int .u64 a, .int .u64 b, .int .u64 c] w fun e w' =>
      e = .returned (.tuple #[.int .u64 (mdQ a b c : Nat), .int .u64 (mdR a b c : Nat), .bool (mdOk a b c)]) ∧ Below w.heap.size w w' := by
  by_cases hlt : a * b < c * 18446744073709551616
  · have eq : mdQ a b c = quo64 (hi64 a b) (lo64 a b) c := by unfold mdQ quo64; rw [if_pos hlt, hi_lo]
    have er : mdR a b c = rem64 (hi64 a b) (lo64 a b) c := by unfold mdR rem64; rw [if_pos hlt, hi_lo]
    have eo : mdOk a b c = true := decide_eq_true hlt
    rw [eq, er, eo]
    have h1 := (hi_lt_iff a b c).2 hlt
    have h2 := lo64_lt a b
    clear eq er eo hlt
    have tm := times_any a b ha hb
    generalize hi64 a b = h at *
    generalize lo64 a b = l at *
    have h3 : decide ((c : Int) ≤ (h : Int)) = false := decide_eq_false (by omega)
    have h4 : decide (c ≤ h) = false := decide_eq_false (by omega)
    have TM := Lib.hid tm
    clear tm
    go_enter Try.func46, Try.ntmps46
    go_wp2_with fail
    refine (TM.out _).mono ?_
    rintro e w1 ⟨rfl, hb1⟩
    have hz := hb1.size
    go_wp2_with fail
    refine (div64_any h l c h2 hc h1 _).mono ?_
    rintro e w2 ⟨rfl, hb2⟩
    go_wp2_with fail
    go_ret3
    exact ⟨rfl, (hb1.alloc hz _).trans (hb2.mono (by simp; omega))⟩
  · have eq : mdQ a b c = 0 := if_neg hlt
    have er : mdR a b c = 0 := if_neg hlt
    have eo : mdOk a b c = false := decide_eq_false hlt
    rw [eq, er, eo]
    have h1 : ¬ hi64 a b < c := fun h => hlt ((hi_lt_iff a b c).1 h)
    have tm := times_any a b ha hb
    clear eq er eo hlt
    generalize hi64 a b = h at *
    generalize lo64 a b = l at *
    have h3 : decide ((c : Int) ≤ (h : Int)) = true := decide_eq_true (by omega)
    have h4 : decide (c ≤ h) = true := decide_eq_true (by omega)
    have TM := Lib.hid tm
    clear tm
    go_enter Try.func46, Try.ntmps46
    go_wp2_with fail
    refine (TM.out _).mono ?_
    rintro e w1 ⟨rfl, hb1⟩
    have hz := hb1.size
    go_wp2_with fail
    go_ret3
    exact ⟨rfl, hb1.alloc hz _⟩

def cmpI (a b c d : Nat) : Int := if a * b < c * d then -1 else if a * b = c * d then 0 else 1

theorem cmp_words (h l h' l' : Nat) (hl : l < 18446744073709551616) (hl' : l' < 18446744073709551616) :
    (h * 18446744073709551616 + l = h' * 18446744073709551616 + l' ↔ h = h' ∧ l = l') := by omega

end Go.Proofs.Ytkemhcokkaanfaa
