/-
  percpu.Better, doleref21.Better.
-/
import Derived.Test.YtnpjacfefocjnaaFix
import Derived.Deep.RegionHeld3
import Derived.Deep.QuietTactic
import Derived.BigQuiet
namespace Go.Proofs.Ytnpjacfefocjnaa
open Go.RowKit

/-- a callee that leaves the world alone, within a quiet region -/
theorem quiet_left {P : Program} {f : FuncId} {args : Array Value} {w : World} {n : Nat} {v : Value}
    (h : Calls P f args (w.drewN n) fun e w' => e = .returned v ∧ w.drewN n = w') : Calls P f args (w.drewN n) fun e w'' => e = .returned v ∧ ∃ m, w'' = w.drewN m :=
  h.mono fun _ _ ⟨he, hm⟩ => ⟨he, n, hm.symm⟩

/-- an entity by value -/
abbrev entV (i : Int) (x : Nat) (v : Int) (r : Nat) : Value := .agg #[.int .i64 i, .int .u64 x, .int .i64 v, .int .u64 r]

def betterB (v u g : Int) : Bool := decide (satZ u (holdZ g 0 1099511627776) < v)

set_option maxRecDepth 100000 in
set_option maxHeartbeats 4000000 in
theorem better_any (i : Int) (x : Nat) (v : Int) (r : Nat) (j : Int) (y : Nat) (u : Int) (s : Nat) (g : Int) (hu1 : -9223372036854775808 ≤ u) (hu2 : u ≤ 9223372036854775807) (w : World) :
    Calls Try.prog 89 #[entV i x v r, entV j y u s, .int .i64 g] w fun e w' => e = .returned (.bool (betterB v u g)) ∧ Below w.heap.size w w' := by
  have M1 := Lib.hid fun W => fhold_any g 0 1099511627776 W
  have hc := holdZ_credit g
  obtain ⟨R, hR⟩ : ∃ R, R = betterB v u g := ⟨_, rfl⟩
  rw [← hR]
  unfold betterB at hR
  generalize holdZ g 0 1099511627776 = c at *
  have M2 := Lib.hid fun W => fsat_any u c hu1 hu2 (by omega) (by omega) W
  generalize satZ u c = t at *
  have q1 : decide (t < v) = R := hR.symm
  clear hR hc
  go_enter Try.func89, Try.ntmps89
  go_wp2_with fail
  obtain ⟨W1, hW1⟩ : ∃ W1, W1 = (w.alloc (.cells #[.int .i64 i, .int .u64 x, .int .i64 v, .int .u64 r] 89)).alloc (.cells #[.int .i64 j, .int .u64 y, .int .i64 u, .int .u64 s] 89) := ⟨_, rfl⟩
  have hB : Below w.heap.size w W1 := by rw [hW1]; exact ((Below.refl _ _).alloc (Nat.le_refl _) _).alloc (by simp) _
  have hz : w.heap.size + 2 ≤ W1.heap.size := by rw [hW1]; simp
  have k1 : W1.cell? ⟨w.heap.size, 2, none⟩ = some (.int .i64 v) := by rw [hW1]; simp [go_sem]
  have k2 : W1.cell? ⟨w.heap.size + 1, 2, none⟩ = some (.int .i64 u) := by rw [hW1]; simp [go_sem]
  rw [← hW1]
  clear hW1
  have SO := Lib.hid fun w' (h : Below (w.heap.size + 2) W1 w') => (⟨h, (h.cell (p := ⟨w.heap.size, 2, none⟩) (by show w.heap.size < _; omega)).trans k1, (h.cell (p := ⟨w.heap.size + 1, 2, none⟩) (by show w.heap.size + 1 < _; omega)).trans k2⟩ : Below (w.heap.size + 2) W1 w' ∧ w'.cell? ⟨w.heap.size, 2, none⟩ = some (.int .i64 v) ∧ w'.cell? ⟨w.heap.size + 1, 2, none⟩ = some (.int .i64 u))
  go_region_held3 (fun w' => Below (w.heap.size + 2) W1 w' ∧ w'.cell? ⟨w.heap.size, 2, none⟩ = some (.int .i64 v) ∧ w'.cell? ⟨w.heap.size + 1, 2, none⟩ = some (.int .i64 u))
    (first | exact SO.out _ (kp_drew (by assumption)) | exact SO.out _ (kp_call (by assumption) (by assumption) hz) | exact SO.out _ (kp_same (by assumption)) | exact SO.out _ (kp_start _ _))
    (first
      | (go_at_call 108; refine (M1.out _).mono ?_; rintro e w' ⟨rfl, rfl⟩)
      | (go_at_call 107; refine (M2.out _).mono ?_; rintro e w' ⟨rfl, hb2⟩))
  rename_i hHeld
  go_wp2_with fail
  go_ret
  exact ⟨rfl, hB.trans (hHeld.1.mono (by omega))⟩

set_option maxRecDepth 100000 in
set_option maxHeartbeats 4000000 in
theorem refBetter_any (i : Int) (x : Nat) (v : Int) (r : Nat) (j : Int) (y : Nat) (u : Int) (s : Nat) (g : Int) (hu1 : -9223372036854775808 ≤ u) (hu2 : u ≤ 9223372036854775807) (w : World) :
    Calls Try.prog 90 #[entV i x v r, entV j y u s, .int .i64 g] w fun e w' => e = .returned (.bool (betterB v u g)) ∧ Below w.heap.size w w' := by
  have M1 := Lib.hid fun W => refHold_any g 0 1099511627776 W
  have hc := holdZ_credit g
  obtain ⟨R, hR⟩ : ∃ R, R = betterB v u g := ⟨_, rfl⟩
  rw [← hR]
  unfold betterB at hR
  generalize holdZ g 0 1099511627776 = c at *
  have M2 := Lib.hid fun W => refSat_any u c hu1 hu2 (by omega) (by omega) W
  generalize satZ u c = t at *
  have q1 : decide (t < v) = R := hR.symm
  clear hR hc
  go_enter Try.func90, Try.ntmps90
  go_wp2_with fail
  go_big_quiet ((first | (go_at_call 110; exact quiet_left (M1.out _)) | (go_at_call 109; exact quiet_left (M2.out _))))
  go_wp2_with fail
  go_ret
  exact ⟨rfl, below_drewN (((Below.refl _ _).alloc (Nat.le_refl _) _).alloc (by simp) _) _⟩

end Go.Proofs.Ytnpjacfefocjnaa
