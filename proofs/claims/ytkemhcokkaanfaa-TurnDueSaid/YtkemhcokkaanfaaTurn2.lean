/-
  percpu.Turn: a clock lies in one block of five cells. What its methods do.
-/
import Derived.Test.YtkemhcokkaanfaaTurn
import Derived.Deep.RegionWith
namespace Go.Proofs.Ytkemhcokkaanfaa
open Go.RowKit

/-- the cells of a clock -/
def turnCells (L : Nat) (k : Int) (r bu id : Nat) : Array Value := #[.int .u64 L, .int .i64 k, .int .u64 r, .int .u64 bu, .int .u64 id]
/-- block b is a clock -/
def TurnAt (w : World) (b L : Nat) (k : Int) (r bu id : Nat) : Prop := Blk w b (turnCells L k r bu id) 133

theorem TurnAt.cells {w : World} {b L : Nat} {k : Int} {r bu id : Nat} (h : TurnAt w b L k r bu id) :
    w.cell? ⟨b, 0, none⟩ = some (.int .u64 L) ∧ w.cell? ⟨b, 1, none⟩ = some (.int .i64 k) ∧ w.cell? ⟨b, 2, none⟩ = some (.int .u64 r) ∧ w.cell? ⟨b, 3, none⟩ = some (.int .u64 bu) ∧ w.cell? ⟨b, 4, none⟩ = some (.int .u64 id) ∧ ∀ i, w.frozen? ⟨b, i, none⟩ = false :=
  ⟨Blk.cell h 0, Blk.cell h 1, Blk.cell h 2, Blk.cell h 3, Blk.cell h 4, Blk.frozen h⟩

set_option maxRecDepth 100000 in
theorem tnew_no (l : Nat) (h : l < 1 ∨ 1000000000 < l) (w : World) :
    Calls Try.prog 26 #[.int .u64 l] w fun e w' => e = .returned (.tuple #[.pointer none, .int .i64 1]) ∧ w = w' := by
  by_cases h1 : l < 1
  · have t1 : decide (l < 1) = true := decide_eq_true h1
    have t2 : decide ((l : Int) < 1) = true := decide_eq_true (by omega)
    clear h
    go_enter Try.func26, Try.ntmps26
    go_wp2_with fail
    go_ret2
    exact ⟨rfl, rfl⟩
  · have t1 : decide (l < 1) = false := decide_eq_false h1
    have t2 : decide ((l : Int) < 1) = false := decide_eq_false (by omega)
    have t3 : decide (1000000000 < l) = true := decide_eq_true (by omega)
    have t4 : decide ((1000000000 : Int) < (l : Int)) = true := decide_eq_true (by omega)
    clear h
    go_enter Try.func26, Try.ntmps26
    go_wp2_with fail
    go_ret2
    exact ⟨rfl, rfl⟩

set_option maxRecDepth 100000 in
theorem tnew_yes (l : Nat) (h1 : 1 ≤ l) (h2 : l ≤ 1000000000) (w : World) :
    Calls Try.prog 26 #[.int .u64 l] w fun e w' => e = .returned (.tuple #[.pointer (some ⟨w.heap.size, 0, none⟩), .int .i64 0]) ∧ TurnAt w' w.heap.size l (-1) 0 0 0 ∧ Below w.heap.size w w' := by
  have t1 : decide (l < 1) = false := decide_eq_false (by omega)
  have t2 : decide ((l : Int) < 1) = false := decide_eq_false (by omega)
  have t3 : decide (1000000000 < l) = false := decide_eq_false (by omega)
  have t4 : decide ((1000000000 : Int) < (l : Int)) = false := decide_eq_false (by omega)
  go_enter Try.func26, Try.ntmps26
  go_wp2_with fail
  go_ret2
  exact ⟨rfl, Blk.new _ _ _, (Below.refl _ _).alloc (Nat.le_refl _) _⟩

/-- a method without results leaves a clock as it then stands, and all else as it was -/
def Goes (b L : Nat) (k : Int) (r bu id : Nat) (w : World) (e : Ending) (w' : World) : Prop := (∃ v, e = .returned v) ∧ TurnAt w' b L k r bu id ∧ w.grownBy w' (some b)

set_option maxRecDepth 100000 in
theorem rest_any (b L : Nat) (k : Int) (r bu id : Nat) (w : World) (hT : TurnAt w b L k r bu id) (n : Nat) (hi : id < 18446744073709551616) (hn : n < 18446744073709551616) :
    Calls Try.prog 82 #[.pointer (some ⟨b, 0, none⟩), .int .u64 n] w (Goes b L k r bu (sat (id + n)) w) := by
  obtain ⟨c0, c1, c2, c3, c4, cf⟩ := hT.cells
  have hs := sat_lt (id + n)
  have M1 := Lib.hid fun W => on_any id n hi hn W
  generalize sat (id + n) = s at *
  have HT := Lib.hid hT
  clear hT
  go_enter Try.func82, Try.ntmps82
  go_wp2_with fail
  refine (M1.out _).mono ?_
  rintro e w1 ⟨rfl, rfl⟩
  go_wp2_with fail
  go_end0
  exact ⟨⟨_, rfl⟩, Blk.set HT.out 4 _, only_setCell (only_refl _ _) (.inl rfl) _⟩

theorem serve_end {b L : Nat} {k : Int} {r bu id : Nat} {w : World} (hT : TurnAt w b L k r bu id) (s u : Nat) :
    Goes b L k s u id w (.returned (.tuple #[])) ((w.setCell ⟨b, 2, none⟩ (.int .u64 s)).setCell ⟨b, 3, none⟩ (.int .u64 u)).drew := by
  have h1 : TurnAt (w.setCell ⟨b, 2, none⟩ (.int .u64 s)) b L k s bu id := Blk.set hT 2 (.int .u64 s)
  have h2 : TurnAt ((w.setCell ⟨b, 2, none⟩ (.int .u64 s)).setCell ⟨b, 3, none⟩ (.int .u64 u)) b L k s u id := Blk.set h1 3 (.int .u64 u)
  have g1 : w.grownBy (w.setCell ⟨b, 2, none⟩ (.int .u64 s)) (some b) := only_setCell (only_refl _ _) (.inl rfl) _
  have g2 : w.grownBy ((w.setCell ⟨b, 2, none⟩ (.int .u64 s)).setCell ⟨b, 3, none⟩ (.int .u64 u)) (some b) := only_setCell g1 (.inl rfl) _
  exact ⟨⟨_, rfl⟩, Blk.drew h2, only_drew g2⟩


set_option maxRecDepth 100000 in
set_option maxHeartbeats 8000000 in
theorem serve_any (b L : Nat) (k : Int) (r bu id : Nat) (w : World) (hT : TurnAt w b L k r bu id) (n : Nat) (hr : r < 18446744073709551616) (hbu : bu < 18446744073709551616) (hn : n < 18446744073709551616) :
    Calls Try.prog 81 #[.pointer (some ⟨b, 0, none⟩), .int .u64 n] w (Goes b L k (sat (r + n)) (sat (bu + n)) id w) := by
  obtain ⟨c0, c1, c2, c3, c4, cf⟩ := hT.cells
  have M1 := Lib.hid fun W => on_any r n hr hn W
  have M2 := Lib.hid fun W => on_any bu n hbu hn W
  generalize sat (r + n) = s at *
  generalize sat (bu + n) = u at *
  have HT := Lib.hid hT
  clear hT
  go_enter Try.func81, Try.ntmps81
  go_wp2_with fail
  go_region_with (first
    | (go_at_call_of 119 (Value.int .u64 (r : Int)); refine (M1.out _).mono ?_; rintro e w' ⟨rfl, rfl⟩)
    | (go_at_call_of 119 (Value.int .u64 (bu : Int)); refine (M2.out _).mono ?_; rintro e w' ⟨rfl, rfl⟩))
  all_goals go_end0
  all_goals exact serve_end HT.out s u

end Go.Proofs.Ytkemhcokkaanfaa
