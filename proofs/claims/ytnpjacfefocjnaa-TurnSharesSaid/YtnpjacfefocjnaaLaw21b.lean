/-
  THE LAWS OF LAYER 21 (percpu), the walks, second part: slices. For every input it returns true. No conditions.
-/
import Derived.Test.YtnpjacfefocjnaaLaw21
namespace Go.Proofs.Ytnpjacfefocjnaa
open Go.ChangeShapes Go.WideShapes Go.ChangeAt Go.RowKit

namespace turnSlices
set_option maxRecDepth 100000 in
set_option maxHeartbeats 8000000 in
theorem walk (x0 x1 x2 : Nat) (i : Int) (x : Nat) (v : Int) (r : Nat) (j : Int) (y : Nat) (u : Int) (s : Nat) (b0 : x0 < 18446744073709551616) (b1 : x1 < 18446744073709551616) (b2 : x2 < 18446744073709551616)
    (hu1 : -9223372036854775808 ≤ u) (hu2 : u ≤ 9223372036854775807) (w : World) :
    Calls Try.prog 34 #[.agg #[.int .u64 x0, .int .u64 x1, .int .u64 x2], entV i x v r, entV j y u s] w fun e w' => e = .returned (.bool true) ∧ Below w.heap.size w w' := by
  obtain ⟨g, hg⟩ : ∃ g, g = IntKind.i64.wrap (x2 : Int) := ⟨_, rfl⟩
  have e1 : IntKind.i64.wrap (x2 : Int) = g := hg.symm
  have e2 : wrap64 (x2 : Int) = g := by rw [← e1]; exact (IntWalk.i64_left _).symm
  clear hg
  have M1 := Lib.hid fun W => slice_any x0 x1 x2 b0 b1 b2 W
  have M2 := Lib.hid fun W => refSlice_any x0 x1 x2 b0 b1 b2 W
  have M3 := Lib.hid fun W => better_any i x v r j y u s g hu1 hu2 W
  have M4 := Lib.hid fun W => refBetter_any i x v r j y u s g hu1 hu2 W
  generalize sliceN x0 x1 x2 = z at *
  generalize betterB v u g = R at *
  go_enter Try.func34, Try.ntmps34
  go_wp2_with fail
  refine (awake21 _).mono ?_
  rintro e w1 ⟨rfl, hb1⟩
  have hz1 := hb1.size
  simp at hz1
  have X0 : Blk w1 w.heap.size #[.int .u64 x0, .int .u64 x1, .int .u64 x2] 87 := (((Blk.new w _ 87).alloc (.cells (entCells i x v r) 89)).alloc (.cells (entCells j y u s) 89)).below hb1 (by simp; omega)
  have X1 : Blk w1 (w.heap.size + 1) (entCells i x v r) 89 := by
    have := (Blk.new (w.alloc (.cells #[.int .u64 x0, .int .u64 x1, .int .u64 x2] 87)) (entCells i x v r) 89).alloc (.cells (entCells j y u s) 89)
    rw [World.size_alloc] at this
    exact this.below hb1 (by simp)
  have X2 : Blk w1 (w.heap.size + 1 + 1) (entCells j y u s) 89 := by
    have := Blk.new ((w.alloc (.cells #[.int .u64 x0, .int .u64 x1, .int .u64 x2] 87)).alloc (.cells (entCells i x v r) 89)) (entCells j y u s) 89
    rw [World.size_alloc, World.size_alloc] at this
    exact this.below hb1 (by simp)
  have C1 := ((((Below.refl _ w).alloc (Nat.le_refl _) (.cells #[.int .u64 x0, .int .u64 x1, .int .u64 x2] 87)).alloc (by simp) (.cells (entCells i x v r) 89)).alloc (by simp; omega) (.cells (entCells j y u s) 89)).trans (hb1.mono (by simp; omega))
  have k0 := X0.cell 0
  have k1 := X0.cell 1
  have k2 := X0.cell 2
  obtain ⟨p0, p1, p2, p3⟩ := X1.ent
  obtain ⟨q0, q1, q2, q3⟩ := X2.ent
  simp at k0 k1 k2
  clear hb1
  go_wp2_with fail
  have SO := Lib.hid fun w' (h : Below (w.heap.size + 3) w1 w') => (⟨h, (X0.below h (by omega)).cell 0, (X0.below h (by omega)).cell 1, (X0.below h (by omega)).cell 2, (X1.below h (by omega)).ent, (X2.below h (by omega)).ent⟩ :
    Below (w.heap.size + 3) w1 w' ∧ w'.cell? ⟨w.heap.size, 0, none⟩ = some (.int .u64 x0) ∧ w'.cell? ⟨w.heap.size, 1, none⟩ = some (.int .u64 x1) ∧ w'.cell? ⟨w.heap.size, 2, none⟩ = some (.int .u64 x2) ∧
      (w'.cell? ⟨w.heap.size + 1, 0, none⟩ = some (.int .i64 i) ∧ w'.cell? ⟨w.heap.size + 1, 1, none⟩ = some (.int .u64 x) ∧ w'.cell? ⟨w.heap.size + 1, 2, none⟩ = some (.int .i64 v) ∧ w'.cell? ⟨w.heap.size + 1, 3, none⟩ = some (.int .u64 r)) ∧
      (w'.cell? ⟨w.heap.size + 1 + 1, 0, none⟩ = some (.int .i64 j) ∧ w'.cell? ⟨w.heap.size + 1 + 1, 1, none⟩ = some (.int .u64 y) ∧ w'.cell? ⟨w.heap.size + 1 + 1, 2, none⟩ = some (.int .i64 u) ∧ w'.cell? ⟨w.heap.size + 1 + 1, 3, none⟩ = some (.int .u64 s)))
  clear X0 X1 X2
  go_region_held3 (fun w' => Below (w.heap.size + 3) w1 w' ∧ w'.cell? ⟨w.heap.size, 0, none⟩ = some (.int .u64 x0) ∧ w'.cell? ⟨w.heap.size, 1, none⟩ = some (.int .u64 x1) ∧ w'.cell? ⟨w.heap.size, 2, none⟩ = some (.int .u64 x2) ∧
      (w'.cell? ⟨w.heap.size + 1, 0, none⟩ = some (.int .i64 i) ∧ w'.cell? ⟨w.heap.size + 1, 1, none⟩ = some (.int .u64 x) ∧ w'.cell? ⟨w.heap.size + 1, 2, none⟩ = some (.int .i64 v) ∧ w'.cell? ⟨w.heap.size + 1, 3, none⟩ = some (.int .u64 r)) ∧
      (w'.cell? ⟨w.heap.size + 1 + 1, 0, none⟩ = some (.int .i64 j) ∧ w'.cell? ⟨w.heap.size + 1 + 1, 1, none⟩ = some (.int .u64 y) ∧ w'.cell? ⟨w.heap.size + 1 + 1, 2, none⟩ = some (.int .i64 u) ∧ w'.cell? ⟨w.heap.size + 1 + 1, 3, none⟩ = some (.int .u64 s)))
    (first | exact SO.out _ (kp_drew (by assumption)) | exact SO.out _ (kp_call (by assumption) (by assumption) hz1) | exact SO.out _ (kp_same (by assumption)) | exact SO.out _ (kp_start _ _))
    (first
      | (go_at_call 77; refine (M1.out _).mono ?_; rintro e w' ⟨rfl, hc1⟩)
      | (go_at_call 88; refine (M2.out _).mono ?_; rintro e w' ⟨rfl, rfl⟩)
      | (go_at_call 89; refine (M3.out _).mono ?_; rintro e w' ⟨rfl, hc3⟩)
      | (go_at_call 90; refine (M4.out _).mono ?_; rintro e w' ⟨rfl, hc4⟩))
  rename_i hHeld
  go_wp2_with fail
  go_ret
  exact ⟨rfl, C1.trans (hHeld.1.mono (by omega))⟩
end turnSlices

end Go.Proofs.Ytnpjacfefocjnaa
