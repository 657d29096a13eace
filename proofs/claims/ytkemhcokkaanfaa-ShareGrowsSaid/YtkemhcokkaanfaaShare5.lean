/-
  doleref11.Same, Split.
-/
import Derived.Test.YtkemhcokkaanfaaShare4
namespace Go.Proofs.Ytkemhcokkaanfaa
open Go.RowKit

theorem list_ext (xs ys : List Nat) (hl : xs.length = ys.length) (h : ∀ j, j < xs.length → xs.getD j 0 = ys.getD j 0) : xs = ys := by
  refine List.ext_getElem hl fun j h1 h2 => ?_
  have := h j h1
  simpa [List.getD, List.getElem?_eq_getElem h1, List.getElem?_eq_getElem h2] using this

set_option maxRecDepth 100000 in
set_option maxHeartbeats 1000000 in
theorem same_any (w : World) (A A' : Option Addr) (xs ys : List Nat) (c c' : Nat) (B B' : Nat) (hA : U64s w B A xs) (hA' : U64s w B' A' ys) (hn : xs.length ≤ 100000) (_hn' : ys.length ≤ 100000) (hB : B ≤ w.heap.size) (hB' : B' ≤ w.heap.size) :
    Calls Try.prog 23 #[.slice A xs.length c, .slice A' ys.length c'] w fun e w' => e = .returned (.bool (decide (xs = ys))) ∧ Below w.heap.size w w' := by
  obtain ⟨R, hR⟩ : ∃ R, R = decide (xs = ys) := ⟨_, rfl⟩
  rw [← hR]
  have HR := Lib.hid hR
  clear hR
  obtain ⟨n, hnx⟩ : ∃ n, n = xs.length := ⟨_, rfl⟩
  rw [← hnx]
  rw [← hnx] at hn
  have HL := Lib.hid hnx
  clear hnx
  by_cases hl : n = ys.length
  · have HL2 := Lib.hid hl
    rw [← hl]
    clear hl
    have t0 : ((n : Int) != (n : Int)) = false := by simp
    go_enter Try.func23, Try.ntmps23
    go_wp2_with fail
    go_loopw [5] (fun s5 wr => ∃ k : Nat, k ≤ n ∧ s5 = .int .i64 k ∧ Hid (∀ j, j < k → xs.getD j 0 = ys.getD j 0) ∧ Below w.heap.size w wr) (fun s5 _ => n - (intOf s5).toNat)
    case atStart => exact ⟨0, by omega, rfl, fun j hj => by omega, Below.refl _ _⟩
    case round =>
      obtain ⟨k, hk, rfl, H, hBel⟩ := hrel
      by_cases hlt : k < n
      · have z1 : decide ((k : Int) < (n : Int)) = true := decide_eq_true (by omega)
        have z2 : decide (k < n) = true := decide_eq_true hlt
        have h1 : k < xs.length := by rw [← HL.out]; exact hlt
        have h2 : k < ys.length := by rw [← HL2.out]; exact hlt
        rcases hA with h0 | ⟨b, off, rfl, hbB, hc⟩
        · rw [h0] at h1; simp at h1
        · rcases hA' with h0 | ⟨b', off', rfl, hbB', hc'⟩
          · rw [h0] at h2; simp at h2
          · have hc1 := (hBel.cell (p := ⟨b, off + k, none⟩) (by show b < _; omega)).trans (hc k h1)
            have hc2 := (hBel.cell (p := ⟨b', off' + k, none⟩) (by show b' < _; omega)).trans (hc' k h2)
            clear hc hc'
            have i0 : (0 : Int) ≤ (k : Int) := Int.natCast_nonneg _
            have i1 : (k : Int) < (n : Int) := by omega
            by_cases e : xs.getD k 0 = ys.getD k 0
            · have H2 : Hid (∀ j, j < k + 1 → xs.getD j 0 = ys.getD j 0) := fun j hj => by
                rcases Nat.lt_or_ge j k with h | h
                · exact H.out j h
                · obtain rfl : j = k := by omega
                  exact e
              rw [e] at hc1
              clear e h1 h2 H
              generalize ys.getD k 0 = y at *
              go_wp2_with fail
              go_quiet (fail)
              go_wp2_with fail
              go_roundw
              case rel => exact ⟨k + 1, by omega, by go_num, H2, ⟨hBel.os, hBel.tape, hBel.output, hBel.size, hBel.block⟩⟩
              case measure => simp [intOf]; omega
            · obtain rfl : R = false := by
                rw [HR.out]
                exact decide_eq_false fun h => e (by rw [h])
              have e1 : ((xs.getD k 0 : Int) != (ys.getD k 0 : Int)) = true := by rw [bne_iff_ne]; omega
              have e2 : (xs.getD k 0 != ys.getD k 0) = true := by rw [bne_iff_ne]; exact e
              clear e h1 h2 H HR
              generalize ys.getD k 0 = y at *
              generalize xs.getD k 0 = x at *
              go_wp2_with fail
              go_quiet (fail)
              go_wp2_with fail
              go_ret
              exact ⟨rfl, ⟨hBel.os, hBel.tape, hBel.output, hBel.size, hBel.block⟩⟩
      · obtain rfl : k = n := by omega
        have z1 : decide ((k : Int) < (k : Int)) = false := decide_eq_false (by omega)
        obtain rfl : R = true := by
          rw [HR.out]
          exact decide_eq_true (list_ext xs ys (by rw [← HL.out, HL2.out]) fun j hj => H.out j (by rw [HL.out]; exact hj))
        clear H HR
        go_wp2_with fail
        go_ret
        exact ⟨rfl, hBel⟩
  · obtain rfl : R = false := by
      rw [HR.out]
      exact decide_eq_false fun h => hl (by rw [HL.out, h])
    generalize ys.length = m at *
    have t0 : ((n : Int) != (m : Int)) = true := by rw [bne_iff_ne]; omega
    have t1 : (n != m) = true := by rw [bne_iff_ne]; exact hl
    clear HR hl
    go_enter Try.func23, Try.ntmps23
    go_wp2_with fail
    go_ret
    exact ⟨rfl, Below.refl _ _⟩

end Go.Proofs.Ytkemhcokkaanfaa
