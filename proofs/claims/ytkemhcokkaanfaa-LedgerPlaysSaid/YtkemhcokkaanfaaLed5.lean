/-
  doleref18.Same, Has; dolelaw18.few, shown.
-/
import Derived.Test.YtkemhcokkaanfaaLed4
import Derived.OwnWalk
namespace Go.Proofs.Ytkemhcokkaanfaa
open Go.RowKit Go.Maps

theorem zlist_ext (xs ys : List Int) (hl : xs.length = ys.length) (h : ∀ j, j < xs.length → xs.getD j 0 = ys.getD j 0) : xs = ys := by
  refine List.ext_getElem hl fun j h1 h2 => ?_
  have := h j h1
  simpa [List.getD, List.getElem?_eq_getElem h1, List.getElem?_eq_getElem h2] using this
theorem own_ints {w : World} {base : Nat} {v : Value} {zs : List Int} {e : TypeId} (h : w.ownsRow base e 1 v zs.length (zs.map zv)) :
    ∃ A c, v = .slice A zs.length c ∧ IntsAt w w.heap.size A zs := by
  rcases h.2 with ⟨rfl, hz⟩ | ⟨g, cap, cur, rfl, hbase, hgb, r1, r2, r3, r4⟩
  · exact ⟨none, 0, by rw [hz], .inl (List.eq_nil_of_length_eq_zero hz)⟩
  · refine ⟨_, _, rfl, .inr ⟨g, 0, rfl, (Array.getElem?_eq_some_iff.1 hgb).1, fun j hj => ?_⟩⟩
    have hj2 : j < (cur.toList.take (zs.length * 1)).length := by rw [r4]; simpa using hj
    have e1 : (cur.toList.take (zs.length * 1))[j]? = (zs.map zv)[j]? := by rw [r4]
    rw [List.getElem?_take_of_lt (by omega), Array.getElem?_toList] at e1
    have : w.cell? ⟨g, 0 + j, none⟩ = cur[j]? := by simp [World.cell?, hgb]
    rw [this, e1]
    simp [hj]

set_option maxRecDepth 100000 in
set_option maxHeartbeats 1000000 in
theorem lsame_any (w : World) (A A' : Option Addr) (xs ys : List Int) (c c' : Nat) (hA : IntsAt w w.heap.size A xs) (hA' : IntsAt w w.heap.size A' ys) (hn : xs.length ≤ 9223372036854775807) (hn' : ys.length ≤ 9223372036854775807) :
    Calls Try.prog 51 #[.slice A xs.length c, .slice A' ys.length c'] w fun e w' => e = .returned (.bool (decide (xs = ys))) ∧ Below w.heap.size w w' := by
  obtain ⟨R, hR⟩ : ∃ R, R = decide (xs = ys) := ⟨_, rfl⟩
  rw [← hR]
  have HR := Lib.hid hR
  clear hR
  obtain ⟨n, hnx⟩ : ∃ n, n = xs.length := ⟨_, rfl⟩
  rw [← hnx]
  rw [← hnx] at hn
  have HL := Lib.hid hnx
  clear hnx
  by_cases hl : n = ys.length
  · have HL2 := Lib.hid hl
    rw [← hl]
    clear hl hn'
    have t0 : ((n : Int) != (n : Int)) = false := by simp
    go_enter Try.func51, Try.ntmps51
    go_wp2_with fail
    go_loopw [5] (fun s5 wr => ∃ k : Nat, k ≤ n ∧ s5 = .int .i64 k ∧ Hid (∀ j, j < k → xs.getD j 0 = ys.getD j 0) ∧ Below w.heap.size w wr) (fun s5 _ => n - (intOf s5).toNat)
    case atStart => exact ⟨0, by omega, rfl, fun j hj => by omega, Below.refl _ _⟩
    case round =>
      obtain ⟨k, hk, rfl, H, hBel⟩ := hrel
      by_cases hlt : k < n
      · have z1 : decide ((k : Int) < (n : Int)) = true := decide_eq_true (by omega)
        have z2 : decide (k < n) = true := decide_eq_true hlt
        have h1 : k < xs.length := by rw [← HL.out]; exact hlt
        have h2 : k < ys.length := by rw [← HL2.out]; exact hlt
        rcases hA with h0 | ⟨b, off, rfl, hbB, hc⟩
        · rw [h0] at h1; simp at h1
        · rcases hA' with h0 | ⟨b', off', rfl, hbB', hc'⟩
          · rw [h0] at h2; simp at h2
          · have hc1 := (hBel.cell (p := ⟨b, off + k, none⟩) (by show b < _; omega)).trans (hc k h1)
            have hc2 := (hBel.cell (p := ⟨b', off' + k, none⟩) (by show b' < _; omega)).trans (hc' k h2)
            clear hc hc'
            have i0 : (0 : Int) ≤ (k : Int) := Int.natCast_nonneg _
            have i1 : (k : Int) < (n : Int) := by omega
            by_cases e : xs.getD k 0 = ys.getD k 0
            · have H2 : Hid (∀ j, j < k + 1 → xs.getD j 0 = ys.getD j 0) := fun j hj => by
                rcases Nat.lt_or_ge j k with h | h
                · exact H.out j h
                · obtain rfl : j = k := by omega
                  exact e
              rw [e] at hc1
              clear e h1 h2 H
              generalize ys.getD k 0 = y at *
              have e0 : (y != y) = false := by simp
              go_wp2_with fail
              go_quiet (fail)
              go_wp2_with fail
              go_roundw
              case rel => exact ⟨k + 1, by omega, by go_num, H2, ⟨hBel.os, hBel.tape, hBel.output, hBel.size, hBel.block⟩⟩
              case measure => simp [intOf]; omega
            · obtain rfl : R = false := by
                rw [HR.out]
                exact decide_eq_false fun h => e (by rw [h])
              have e1 : (xs.getD k 0 != ys.getD k 0) = true := by rw [bne_iff_ne]; exact e
              clear e h1 h2 H HR
              generalize ys.getD k 0 = y at *
              generalize xs.getD k 0 = x at *
              go_wp2_with fail
              go_quiet (fail)
              go_wp2_with fail
              go_ret
              exact ⟨rfl, ⟨hBel.os, hBel.tape, hBel.output, hBel.size, hBel.block⟩⟩
      · obtain rfl : k = n := by omega
        have z1 : decide ((k : Int) < (k : Int)) = false := decide_eq_false (by omega)
        obtain rfl : R = true := by
          rw [HR.out]
          exact decide_eq_true (zlist_ext xs ys (by rw [← HL.out, HL2.out]) fun j hj => H.out j (by rw [HL.out]; exact hj))
        clear H HR
        go_wp2_with fail
        go_ret
        exact ⟨rfl, hBel⟩
  · obtain rfl : R = false := by
      rw [HR.out]
      exact decide_eq_false fun h => hl (by rw [HL.out, h])
    generalize ys.length = m at *
    have t0 : ((n : Int) != (m : Int)) = true := by rw [bne_iff_ne]; omega
    have t1 : (n != m) = true := by rw [bne_iff_ne]; exact hl
    clear HR hl
    go_enter Try.func51, Try.ntmps51
    go_wp2_with fail
    go_ret
    exact ⟨rfl, Below.refl _ _⟩

set_option maxRecDepth 100000 in
set_option maxHeartbeats 1000000 in
theorem lhas_any (w : World) (A : Option Addr) (xs : List Int) (c : Nat) (x : Int) (hA : IntsAt w w.heap.size A xs) (hn : xs.length ≤ 9223372036854775807) :
    Calls Try.prog 59 #[.slice A xs.length c, .int .i64 x] w fun e w' => e = .returned (.bool (decide (x ∈ xs))) ∧ w = w' := by
  obtain ⟨R, hR⟩ : ∃ R, R = decide (x ∈ xs) := ⟨_, rfl⟩
  rw [← hR]
  have HR := Lib.hid hR
  clear hR
  obtain ⟨n, hnx⟩ : ∃ n, n = xs.length := ⟨_, rfl⟩
  rw [← hnx]
  rw [← hnx] at hn
  have HL := Lib.hid hnx
  clear hnx
  go_enter Try.func59, Try.ntmps59
  go_wp2_with fail
  go_loop [5] (fun s5 => ∃ k : Nat, k ≤ n ∧ s5 = .int .i64 k ∧ Hid (∀ j, j < k → xs.getD j 0 ≠ x)) (fun s5 => n - (intOf s5).toNat)
  case atStart => exact ⟨0, by omega, rfl, fun j hj => by omega⟩
  case round =>
    obtain ⟨k, hk, rfl, H⟩ := hrel
    by_cases hlt : k < n
    · have z1 : decide ((k : Int) < (n : Int)) = true := decide_eq_true (by omega)
      have z2 : decide (k < n) = true := decide_eq_true hlt
      have h1 : k < xs.length := by rw [← HL.out]; exact hlt
      rcases hA with h0 | ⟨b, off, rfl, hbB, hc⟩
      · rw [h0] at h1; simp at h1
      have hc1 := hc k h1
      clear hc
      have i0 : (0 : Int) ≤ (k : Int) := Int.natCast_nonneg _
      have i1 : (k : Int) < (n : Int) := by omega
      have ek : xs.getD k 0 = xs[k] := by rw [List.getD_eq_getElem?_getD, List.getElem?_eq_getElem h1]; rfl
      by_cases e : xs.getD k 0 = x
      · obtain rfl : R = true := by
          rw [HR.out]
          refine decide_eq_true ?_
          rw [← e, ek]
          exact List.getElem_mem _
        rw [e] at hc1
        have e0 : (x == x) = true := by simp
        clear e ek h1 H HR
        go_wp2_with fail
        go_ret
        exact ⟨rfl, rfl⟩
      · have H2 : Hid (∀ j, j < k + 1 → xs.getD j 0 ≠ x) := fun j hj => by
          rcases Nat.lt_or_ge j k with h | h
          · exact H.out j h
          · obtain rfl : j = k := by omega
            exact e
        have e1 : (xs.getD k 0 == x) = false := by rw [beq_eq_false_iff_ne]; exact e
        clear e ek h1 H
        generalize xs.getD k 0 = y at *
        go_wp2_with fail
        go_round
        case rel => exact ⟨k + 1, by omega, by go_num, H2⟩
        case measure => simp [intOf]; omega
    · obtain rfl : k = n := by omega
      have z1 : decide ((k : Int) < (k : Int)) = false := decide_eq_false (by omega)
      obtain rfl : R = false := by
        rw [HR.out]
        refine decide_eq_false fun hm => ?_
        obtain ⟨j, hj, rfl⟩ := List.mem_iff_getElem.1 hm
        refine H.out j (by rw [HL.out]; exact hj) ?_
        rw [List.getD_eq_getElem?_getD, List.getElem?_eq_getElem hj]; rfl
      clear H HR
      go_wp2_with fail
      go_ret
      exact ⟨rfl, rfl⟩

set_option maxRecDepth 100000 in
set_option maxHeartbeats 1000000 in
theorem ltasks_nil (w : World) :
    Calls Try.prog 49 #[.pointer none] w fun e w' => e = .returned (.slice none 0 0) ∧ w = w' := by
  go_enter Try.func49, Try.ntmps49
  go_wp2_with fail
  go_ret
  exact ⟨rfl, rfl⟩

set_option maxRecDepth 100000 in
set_option maxHeartbeats 1000000 in
theorem shown18 (w : World) : Calls Try.prog 38 #[] w fun e w' => e = .returned (.bool true) ∧ Below w.heap.size w w' := by
  go_enter Try.func38, Try.ntmps38
  go_wp2_with fail
  refine (lnew_any _).mono ?_
  rintro e w1 ⟨rfl, B1, hb1, hz1⟩
  obtain ⟨q, hq⟩ : ∃ q, q = w1.heap.size := ⟨_, rfl⟩
  go_wp2_with fail
  have hb2 : Below w1.heap.size w1 (w1.alloc (.cells #[.int .i64 1, .int .i64 2] 3)) := (Below.refl _ _).alloc (Nat.le_refl _) _
  have B2 := B1.below hb2 (Nat.le_refl _)
  refine (credit_ok (some ⟨w.heap.size + 3, 0, none⟩) [1, 2] 2 3 5 _ B2 (.inr ⟨w.heap.size + 3, 0, rfl, by simp; omega, by omega, fun j hj => ?_⟩) (by simp) (by decide) (by omega) (by omega) (by simp) (by omega) (by omega)).mono ?_
  · match j, hj with
    | 0, _ => rw [← hz1]; simp [go_sem]
    | 1, _ => rw [← hz1]; simp [go_sem]
  rintro e w3 ⟨rfl, B3, T3⟩
  have M1 := Lib.hid (ltask_any w3 B3 3 (by decide))
  have M2 := Lib.hid (lgroup_any w3 B3 1 (by decide))
  have M3 := Lib.hid (lgroup_any w3 B3 2 (by decide))
  have M4 := Lib.hid (lgroup_any w3 B3 3 (by decide))
  have M5 := Lib.hid (ltotal_any w3 B3)
  rw [show upd (fun _ => (0 : Int)) 3 (0 + 5) 3 = 5 from rfl] at M1
  rw [show gAdd (fun _ => (0 : Int)) [1, 2] 5 1 = 5 from rfl] at M2
  rw [show gAdd (fun _ => (0 : Int)) [1, 2] 5 2 = 5 from rfl] at M3
  rw [show gAdd (fun _ => (0 : Int)) [1, 2] 5 3 = 0 from rfl] at M4
  rw [show (0 : Int) + 5 = 5 from rfl] at M5
  have hB : Below w.heap.size w w3 := Below.turns (hb1.alloc hb1.size _) T3 (by simp) (by have := hb1.size; simp; omega)
  clear B1 B2 B3 T3 hb2
  go_wp2_with fail
  refine M1.out.mono ?_
  rintro e w4 ⟨rfl, rfl⟩
  go_wp2_with fail
  refine M2.out.mono ?_
  rintro e w5 ⟨rfl, rfl⟩
  go_wp2_with fail
  refine M3.out.mono ?_
  rintro e w6 ⟨rfl, rfl⟩
  go_wp2_with fail
  refine M4.out.mono ?_
  rintro e w7 ⟨rfl, rfl⟩
  go_wp2_with fail
  refine M5.out.mono ?_
  rintro e w8 ⟨rfl, rfl⟩
  go_wp2_with fail
  go_ret
  exact ⟨rfl, hB⟩

end Go.Proofs.Ytkemhcokkaanfaa
