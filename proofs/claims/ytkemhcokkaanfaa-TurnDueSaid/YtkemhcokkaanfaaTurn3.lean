/-
  percpu.Turn: Begin, Tick, Task, Ran, Busy, Idle.
-/
import Derived.Test.YtkemhcokkaanfaaTurn2
import Derived.Deep.QuietTactic
import Derived.BigQuiet
import Derived.Deep.RegionHeld3
namespace Go.Proofs.Ytkemhcokkaanfaa
open Go.RowKit

set_option maxRecDepth 100000 in
theorem begin_nil (k : Int) (w : World) :
    Calls Try.prog 27 #[.pointer none, .int .i64 k] w fun e w' => (∃ v, e = .returned v) ∧ w = w' := by
  go_enter Try.func27, Try.ntmps27
  go_wp2_with fail
  refine bodyPost_ret (results_none rfl _ _ _) rfl ?_
  exact ⟨⟨_, rfl⟩, rfl⟩

/-- whom it serves then -/
def taskOf (k : Int) : Int := if k < 0 then -1 else k
theorem taskOf_max (k : Int) : max k (-1) = taskOf k := by unfold taskOf; split <;> omega
theorem taskOf_ge (k : Int) : -1 ≤ taskOf k := by unfold taskOf; split <;> omega
/-- how long it was served then -/
def ranOf (k k' : Int) (r : Nat) : Nat := if taskOf k' = k then r else 0

theorem begin_end {b L : Nat} {k : Int} {r bu id : Nat} {w : World} (hT : TurnAt w b L k r bu id) (m : Int) :
    Goes b L m 0 bu id w (.returned (.tuple #[])) ((w.setCell ⟨b, 1, none⟩ (.int .i64 m)).setCell ⟨b, 2, none⟩ (.int .u64 0)) := by
  have h1 : TurnAt (w.setCell ⟨b, 1, none⟩ (.int .i64 m)) b L m r bu id := Blk.set hT 1 (.int .i64 m)
  have h2 : TurnAt ((w.setCell ⟨b, 1, none⟩ (.int .i64 m)).setCell ⟨b, 2, none⟩ (.int .u64 0)) b L m 0 bu id := Blk.set h1 2 (.int .u64 0)
  have g1 : w.grownBy (w.setCell ⟨b, 1, none⟩ (.int .i64 m)) (some b) := only_setCell (only_refl _ _) (.inl rfl) _
  have g2 : w.grownBy ((w.setCell ⟨b, 1, none⟩ (.int .i64 m)).setCell ⟨b, 2, none⟩ (.int .u64 0)) (some b) := only_setCell g1 (.inl rfl) _
  exact ⟨⟨_, rfl⟩, h2, g2⟩

set_option maxRecDepth 100000 in
theorem begin_any (b L : Nat) (k : Int) (r bu id : Nat) (w : World) (hT : TurnAt w b L k r bu id) (k' : Int) (h1 : -9223372036854775808 ≤ k') (h2 : k' ≤ 9223372036854775807) :
    Calls Try.prog 27 #[.pointer (some ⟨b, 0, none⟩), .int .i64 k'] w (Goes b L (taskOf k') (ranOf k k' r) bu id w) := by
  obtain ⟨c0, c1, c2, c3, c4, cf⟩ := hT.cells
  have HT := Lib.hid hT
  have e0 := taskOf_max k'
  by_cases h : taskOf k' = k
  · have e1 : ranOf k k' r = r := if_pos h
    rw [h, e1]
    rw [h] at e0
    have t1 : (k != k) = false := by simp
    clear hT h e1
    go_enter Try.func27, Try.ntmps27
    go_wp2_with fail
    go_end0
    exact ⟨⟨_, rfl⟩, HT.out, only_refl _ _⟩
  · have e1 : ranOf k k' r = 0 := if_neg h
    rw [e1]
    have t1 : (taskOf k' != k) = true := by rw [bne_iff_ne]; exact h
    generalize taskOf k' = m at *
    clear hT h e1
    go_enter Try.func27, Try.ntmps27
    go_wp2_with fail
    go_end0
    exact begin_end HT.out m

set_option maxRecDepth 100000 in
theorem ttask_any (b L : Nat) (k : Int) (r bu id : Nat) (w : World) (hT : TurnAt w b L k r bu id) :
    Calls Try.prog 80 #[.pointer (some ⟨b, 0, none⟩)] w fun e w' => e = .returned (.int .i64 k) ∧ w = w' := by
  obtain ⟨c0, c1, c2, c3, c4, cf⟩ := hT.cells
  clear hT
  go_enter Try.func80, Try.ntmps80
  go_wp2_with fail
  go_ret
  exact ⟨rfl, rfl⟩
set_option maxRecDepth 100000 in
theorem ttask_nil (w : World) : Calls Try.prog 80 #[.pointer none] w fun e w' => e = .returned (.int .i64 (-1)) ∧ w = w' := by
  go_enter Try.func80, Try.ntmps80
  go_wp2_with fail
  go_ret
  exact ⟨rfl, rfl⟩
set_option maxRecDepth 100000 in
theorem tran_any (b L : Nat) (k : Int) (r bu id : Nat) (w : World) (hT : TurnAt w b L k r bu id) :
    Calls Try.prog 29 #[.pointer (some ⟨b, 0, none⟩)] w fun e w' => e = .returned (.int .u64 r) ∧ w = w' := by
  obtain ⟨c0, c1, c2, c3, c4, cf⟩ := hT.cells
  clear hT
  go_enter Try.func29, Try.ntmps29
  go_wp2_with fail
  go_ret
  exact ⟨rfl, rfl⟩
set_option maxRecDepth 100000 in
theorem tran_nil (w : World) : Calls Try.prog 29 #[.pointer none] w fun e w' => e = .returned (.int .u64 0) ∧ w = w' := by
  go_enter Try.func29, Try.ntmps29
  go_wp2_with fail
  go_ret
  exact ⟨rfl, rfl⟩
set_option maxRecDepth 100000 in
theorem tick_nil (n x ld : Nat) (w : World) :
    Calls Try.prog 28 #[.pointer none, .int .u64 n, .int .u64 x, .int .u64 ld] w fun e w' => e = .returned (.tuple #[.bool false, .int .i64 1]) ∧ w = w' := by
  go_enter Try.func28, Try.ntmps28
  go_wp2_with fail
  go_ret2
  exact ⟨rfl, rfl⟩

set_option maxRecDepth 100000 in
theorem tick_much (b n x ld : Nat) (h : 1000000000 < n) (w : World) :
    Calls Try.prog 28 #[.pointer (some ⟨b, 0, none⟩), .int .u64 n, .int .u64 x, .int .u64 ld] w fun e w' => e = .returned (.tuple #[.bool false, .int .i64 8]) ∧ w = w' := by
  have t1 : decide (1000000000 < n) = true := decide_eq_true h
  have t2 : decide ((1000000000 : Int) < (n : Int)) = true := decide_eq_true (by omega)
  go_enter Try.func28, Try.ntmps28
  go_wp2_with fail
  go_ret2
  exact ⟨rfl, rfl⟩

/-- a Tick's ending -/
def Ticks (d : Bool) (b L : Nat) (k : Int) (r bu id : Nat) (w : World) (e : Ending) (w' : World) : Prop := e = .returned (.tuple #[.bool d, .int .i64 0]) ∧ TurnAt w' b L k r bu id ∧ w.grownBy w' (some b)

set_option maxRecDepth 100000 in
theorem tick_idle (b L r bu id : Nat) (w : World) (hT : TurnAt w b L (-1) r bu id) (n x ld : Nat) (hn : n ≤ 1000000000) (hi : id < 18446744073709551616) :
    Calls Try.prog 28 #[.pointer (some ⟨b, 0, none⟩), .int .u64 n, .int .u64 x, .int .u64 ld] w (Ticks false b L (-1) r bu (sat (id + n)) w) := by
  obtain ⟨c0, c1, c2, c3, c4, cf⟩ := hT.cells
  have M1 := Lib.hid fun W h => rest_any b L (-1) r bu id W h n hi (by omega)
  generalize sat (id + n) = s at *
  have HT := Lib.hid hT
  have t1 : decide (1000000000 < n) = false := decide_eq_false (by omega)
  have t2 : decide ((1000000000 : Int) < (n : Int)) = false := decide_eq_false (by omega)
  clear hT
  go_enter Try.func28, Try.ntmps28
  go_wp2_with fail
  refine (M1.out _ HT.out).mono ?_
  rintro e w1 ⟨⟨v, rfl⟩, hT1, hg1⟩
  obtain ⟨d0, d1, d2, d3, d4, df⟩ := hT1.cells
  clear c0 c1 c2 c3 c4 cf
  have HT1 := Lib.hid hT1
  have HG1 := Lib.hid hg1
  clear hT1 hg1
  go_wp2_with fail
  go_big_quiet (fail)
  go_wp2_with fail
  go_ret2
  exact ⟨rfl, Blk.drewN HT1.out _, only_drewN HG1.out _⟩

/-- a clock as it stands while it answers -/
def Busy (b L : Nat) (k : Int) (r bu id : Nat) (w w' : World) : Prop := TurnAt w' b L k r bu id ∧ w.grownBy w' (some b)
theorem Busy.drew {b L : Nat} {k : Int} {r bu id : Nat} {w w' : World} (h : Busy b L k r bu id w w') : Busy b L k r bu id w w'.drew := ⟨Blk.drew h.1, only_drew h.2⟩
theorem Busy.call {b L : Nat} {k : Int} {r bu id : Nat} {w w' w'' : World} (h : Busy b L k r bu id w w') (hb : Below w'.heap.size w' w'') : Busy b L k r bu id w w'' := ⟨Blk.below h.1 hb (Blk.lt h.1), only_below h.2 hb h.2.size⟩
theorem Busy.s {b L : Nat} {k : Int} {r bu id : Nat} {w w' : World} (h : Busy b L k r bu id w w') : w'.cell? ⟨b, 0, none⟩ = some (.int .u64 (L : Int)) ∧ w'.cell? ⟨b, 1, none⟩ = some (.int .i64 k) ∧ w'.cell? ⟨b, 2, none⟩ = some (.int .u64 (r : Int)) ∧ Busy b L k r bu id w w' :=
  ⟨Blk.cell h.1 0, Blk.cell h.1 1, Blk.cell h.1 2, h⟩

theorem Busy.call' {A B C : Prop} {b L : Nat} {k : Int} {r bu id : Nat} {w w' w'' : World} (hb : Below w'.heap.size w' w'') (h : A ∧ B ∧ C ∧ Busy b L k r bu id w w') :
    w''.cell? ⟨b, 0, none⟩ = some (.int .u64 (L : Int)) ∧ w''.cell? ⟨b, 1, none⟩ = some (.int .i64 k) ∧ w''.cell? ⟨b, 2, none⟩ = some (.int .u64 (r : Int)) ∧ Busy b L k r bu id w w'' := (h.2.2.2.call hb).s

set_option maxRecDepth 100000 in
set_option maxHeartbeats 1000000 in
theorem tick_busy (b L : Nat) (k : Int) (r bu id : Nat) (w : World) (hT : TurnAt w b L k r bu id) (hk : 0 ≤ k) (n x ld : Nat) (hn : n ≤ 1000000000) (hr : r < 18446744073709551616) (hbu : bu < 18446744073709551616) (hL : L < 18446744073709551616) (hx : x < 18446744073709551616) (hd : ld < 18446744073709551616) :
    Calls Try.prog 28 #[.pointer (some ⟨b, 0, none⟩), .int .u64 n, .int .u64 x, .int .u64 ld] w (Ticks (decide (sliceN L x ld ≤ sat (r + n))) b L k (sat (r + n)) (sat (bu + n)) id w) := by
  obtain ⟨c0, c1, c2, c3, c4, cf⟩ := hT.cells
  have M1 := Lib.hid fun W h => serve_any b L k r bu id W h n hr hbu (by omega)
  have M2 := Lib.hid fun W => slice_any L x ld hL hx hd W
  generalize sat (r + n) = s at *
  generalize sat (bu + n) = u at *
  generalize sliceN L x ld = z at *
  obtain ⟨D, hD⟩ : ∃ D, D = decide (z ≤ s) := ⟨_, rfl⟩
  rw [← hD]
  have q1 : decide ((z : Int) ≤ (s : Int)) = D := by rw [hD]; simp
  have HT := Lib.hid hT
  have t1 : decide (1000000000 < n) = false := decide_eq_false (by omega)
  have t2 : decide ((1000000000 : Int) < (n : Int)) = false := decide_eq_false (by omega)
  have t3 : (k == -1) = false := by simp; omega
  have t4 : (k != -1) = true := by simp; omega
  have q2 : decide (z ≤ s) = D := hD.symm
  clear hT hD
  go_enter Try.func28, Try.ntmps28
  go_wp2_with fail
  refine (M1.out _ HT.out).mono ?_
  rintro e w1 ⟨⟨v, rfl⟩, hT1, hg1⟩
  obtain ⟨d0, d1, d2, d3, d4, df⟩ := hT1.cells
  clear c0 c1 c2 c3 c4 cf
  have hB : Busy b L k s u id w w1 := ⟨hT1, hg1⟩
  clear hT1 hg1
  go_wp2_with fail
  go_region_held3 (fun w' => w'.cell? ⟨b, 0, none⟩ = some (.int .u64 (L : Int)) ∧ w'.cell? ⟨b, 1, none⟩ = some (.int .i64 k) ∧ w'.cell? ⟨b, 2, none⟩ = some (.int .u64 (s : Int)) ∧ Busy b L k s u id w w')
    (first | exact Busy.s (Busy.drew (by assumption)) | exact Busy.call' (by assumption) (by assumption) | exact Busy.s (by assumption))
    (first
      | (go_at_call 25; refine (M2.out _).mono ?_; rintro e w' ⟨rfl, hb2⟩))
  rename_i hHeld
  have hB2 := hHeld.2.2.2
  go_wp2_with fail
  go_ret2
  exact ⟨rfl, hB2.1, hB2.2⟩

end Go.Proofs.Ytkemhcokkaanfaa
