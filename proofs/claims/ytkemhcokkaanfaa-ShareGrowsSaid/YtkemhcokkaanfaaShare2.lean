/-
  share.sum, doleref11.Sum: a slice of words that is only read.
-/
import Derived.Test.YtkemhcokkaanfaaShare
import Derived.Test.YtkemhcokkaanfaaBound
import Derived.Shelf.Spec.BitsCarry
namespace Go.Proofs.Ytkemhcokkaanfaa
open Go.RowKit

/-- What a slice of words reads as: nothing, or cells of a block below B. -/
def U64s (w : World) (B : Nat) (A : Option Addr) (xs : List Nat) : Prop :=
  xs = [] ∨ ∃ b off : Nat, A = some ⟨b, off, none⟩ ∧ b < B ∧ ∀ j, j < xs.length → w.cell? ⟨b, off + j, none⟩ = some (.int .u64 ((xs.getD j 0 : Nat) : Int))
theorem U64s.keep {w w' : World} {B : Nat} {A : Option Addr} {xs : List Nat} (h : U64s w B A xs) (hb : Below B w w') : U64s w' B A xs := by
  rcases h with h | ⟨b, off, e, hB, hc⟩
  · exact .inl h
  · exact .inr ⟨b, off, e, hB, fun j hj => (hb.cell (p := ⟨b, off + j, none⟩) hB).trans (hc j hj)⟩
theorem U64s.more {w : World} {B B' : Nat} {A : Option Addr} {xs : List Nat} (h : U64s w B A xs) (hb : B ≤ B') : U64s w B' A xs := by
  rcases h with h | ⟨b, off, e, hB, hc⟩
  · exact .inl h
  · exact .inr ⟨b, off, e, by omega, hc⟩

def Words (xs : List Nat) : Prop := ∀ j, j < xs.length → xs.getD j 0 < 18446744073709551616

theorem sum_take (xs : List Nat) (k : Nat) (hk : k < xs.length) : (xs.take (k + 1)).sum = (xs.take k).sum + xs.getD k 0 := by
  rw [List.take_succ_eq_append_getElem hk, List.sum_append]
  simp [List.getD, List.getElem?_eq_getElem hk]
theorem sum_take_le (xs : List Nat) (k : Nat) : (xs.take k).sum ≤ xs.sum := by
  conv => rhs; rw [← List.take_append_drop k xs]
  rw [List.sum_append]; omega

theorem add64_run (x y : Nat) (hx : x < 18446744073709551616) (hy : y < 18446744073709551616) (w : World) :
    (callFunc 118 #[.int .u64 x, .int .u64 y, .int .u64 0]).run Try.prog w =
      .ok (.value (.tuple #[.int .u64 (((x + y) % 18446744073709551616 : Nat) : Int), .int .u64 (((x + y) / 18446744073709551616 : Nat) : Int)])) w := by
  have h := run_callFunc_extern (P := Try.prog) Try.func118 (by kernel_rfl) (by kernel_rfl) (by kernel_rfl) (e := add64Entry) (by kernel_rfl) (args := #[.int .u64 x, .int .u64 y, .int .u64 0]) (w := w)
  rw [h, run_add64 (x : Int) (y : Int) 0 (by omega) (by omega) (by omega) (by omega)]
  simp only [Result.andThen]
  congr 5 <;> omega

set_option maxRecDepth 100000 in
set_option maxHeartbeats 1000000 in
theorem ssum_any (w : World) (B : Nat) (A : Option Addr) (xs : List Nat) (c : Nat) (hA : U64s w B A xs) (hx : Words xs) (hn : xs.length ≤ 100000) :
    Calls Try.prog 76 #[.slice A xs.length c] w fun e w' => e = .returned (.int .u64 (sat xs.sum : Nat)) ∧ w = w' := by
  obtain ⟨n, hnx⟩ : ∃ n, n = xs.length := ⟨_, rfl⟩
  rw [← hnx]
  rw [← hnx] at hn
  have HL := Lib.hid hnx
  clear hnx
  obtain ⟨R, hR⟩ : ∃ R, R = sat xs.sum := ⟨_, rfl⟩
  rw [← hR]
  have HR := Lib.hid hR
  clear hR
  go_enter Try.func76, Try.ntmps76
  go_wp2_with fail
  go_loop [3, 10] (fun s3 s10 => ∃ k : Nat, k ≤ n ∧ s10 = .int .i64 k ∧ (xs.take k).sum < 18446744073709551616 ∧ s3 = .int .u64 ((xs.take k).sum : Nat)) (fun _ s10 => n - (intOf s10).toNat)
  case atStart => exact ⟨0, by omega, rfl, by simp, rfl⟩
  case round =>
    obtain ⟨k, hk, rfl, hs, rfl⟩ := hrel
    by_cases hlt : k < n
    · have z1 : decide ((k : Int) < (n : Int)) = true := decide_eq_true (by omega)
      have z2 : decide (k < n) = true := decide_eq_true hlt
      have hl : k < xs.length := by rw [← HL.out]; exact hlt
      have hx1 := hx k hl
      have st := sum_take xs k hl
      have tot := sum_take_le xs (k + 1)
      have ar := add64_run _ _ hs hx1
      rcases hA with h0 | ⟨b, off, rfl, hB, hc⟩
      · rw [h0] at hl; simp at hl
      · have hcell := hc k hl
        clear hc hx
        rw [st] at tot
        by_cases ov : (xs.take k).sum + xs.getD k 0 < 18446744073709551616
        · have e1 : ((xs.take k).sum + xs.getD k 0) % 18446744073709551616 = (xs.take (k + 1)).sum := by rw [st]; exact Nat.mod_eq_of_lt ov
          have e2 : ((xs.take k).sum + xs.getD k 0) / 18446744073709551616 = 0 := Nat.div_eq_of_lt ov
          rw [e1, e2] at ar
          rw [← st] at ov
          have ST := Lib.hid ov
          clear st tot e1 e2 ov hl
          generalize hs1 : (xs.take (k + 1)).sum = s1 at *
          have HS := Lib.hid hs1
          clear hs1
          generalize (xs.take k).sum = s0 at *
          generalize xs.getD k 0 = x at *
          go_wp2_with fail
          go_round
          case rel => exact ⟨k + 1, by omega, by go_num, by rw [HS.out]; exact ST.out, by rw [HS.out]⟩
          case measure => simp [intOf]; omega
        · have e2 : ((xs.take k).sum + xs.getD k 0) / 18446744073709551616 = 1 := by omega
          obtain rfl : R = 18446744073709551615 := HR.out.trans (Nat.min_eq_right (by omega))
          rw [e2] at ar
          clear st tot e2 ov hl HR
          generalize ((xs.take k).sum + xs.getD k 0) % 18446744073709551616 = s1 at *
          generalize (xs.take k).sum = s0 at *
          generalize xs.getD k 0 = x at *
          go_wp2_with fail
          go_ret
          exact ⟨rfl, rfl⟩
    · obtain rfl : k = n := by omega
      have z1 : decide ((k : Int) < (k : Int)) = false := decide_eq_false (by omega)
      have e0 : xs.take k = xs := List.take_of_length_le (by rw [← HL.out]; exact Nat.le_refl _)
      rw [e0] at hs
      rw [e0]
      have e3 : xs.sum = R := (HR.out.trans (Nat.min_eq_left (by omega))).symm
      rw [e3]
      clear e0 e3 HR
      go_wp2_with fail
      go_ret
      exact ⟨rfl, rfl⟩

end Go.Proofs.Ytkemhcokkaanfaa
