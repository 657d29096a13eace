/-
  THE LAWS OF LAYER 21 (percpu), the walks, fourth part: plays. For every input it returns true. No conditions.
-/
import Derived.Test.YtnpjacfefocjnaaLaw21d
namespace Go.Proofs.Ytnpjacfefocjnaa
open Go.ChangeShapes Go.WideShapes Go.ChangeAt Go.RowKit

theorem refTick_ok (L : Nat) (k : Int) (r bu id : Nat) (w : World) (hk : -1 ≤ k) (n x ld : Nat) (hn : n ≤ 1000000000) (hr : r < 18446744073709551616) (hbu : bu < 18446744073709551616) (hid : id < 18446744073709551616) (hL : L < 18446744073709551616) (hx : x < 18446744073709551616) (hd : ld < 18446744073709551616) :
    Calls Try.prog 83 #[turnV L k r bu id, .int .u64 n, .int .u64 x, .int .u64 ld] w fun e w' => e = .returned (.tuple #[turnV L k (runs k r n) (runs k bu n) (idles k id n), .bool (dueB L k x ld r n), .int .i64 0]) ∧ Below w.heap.size w w' := by
  by_cases h : k < 0
  · obtain rfl : k = -1 := by omega
    exact refTick_idle L r bu id n x ld hn hid w
  · rw [show dueB L k x ld r n = decide (sliceN L x ld ≤ sat (r + n)) from if_neg h, show runs k r n = sat (r + n) from if_neg h, show runs k bu n = sat (bu + n) from if_neg h, show idles k id n = id from if_neg h]
    exact refTick_busy L k r bu id (by omega) n x ld hn hr hbu hL hx hd w

theorem Blk.turn {w : World} {b L : Nat} {k : Int} {r bu id : Nat} {t : TypeId} (h : Blk w b (turnCells L k r bu id) t) :
    w.cell? ⟨b, 0, none⟩ = some (.int .u64 L) ∧ w.cell? ⟨b, 1, none⟩ = some (.int .i64 k) ∧ w.cell? ⟨b, 2, none⟩ = some (.int .u64 r) ∧ w.cell? ⟨b, 3, none⟩ = some (.int .u64 bu) ∧ w.cell? ⟨b, 4, none⟩ = some (.int .u64 id) ∧ ∀ i, w.frozen? ⟨b, i, none⟩ = false :=
  ⟨Blk.cell h 0, Blk.cell h 1, Blk.cell h 2, Blk.cell h 3, Blk.cell h 4, Blk.frozen h⟩

theorem put5 {w : World} {b L : Nat} {k : Int} {r bu id : Nat} {t : TypeId} (h : Blk w b (turnCells L k r bu id) t) (k' : Int) (r' bu' id' : Nat) :
    Blk (((((w.setCell ⟨b, 0, none⟩ (.int .u64 L)).setCell ⟨b, 1, none⟩ (.int .i64 k')).setCell ⟨b, 2, none⟩ (.int .u64 r')).setCell ⟨b, 3, none⟩ (.int .u64 bu')).setCell ⟨b, 4, none⟩ (.int .u64 id')) b (turnCells L k' r' bu' id') t ∧
    w.grownBy (((((w.setCell ⟨b, 0, none⟩ (.int .u64 L)).setCell ⟨b, 1, none⟩ (.int .i64 k')).setCell ⟨b, 2, none⟩ (.int .u64 r')).setCell ⟨b, 3, none⟩ (.int .u64 bu')).setCell ⟨b, 4, none⟩ (.int .u64 id')) (some b) := by
  have h0 : Blk (w.setCell ⟨b, 0, none⟩ (.int .u64 L)) b (turnCells L k r bu id) t := Blk.set h 0 (.int .u64 L)
  have h1 : Blk ((w.setCell ⟨b, 0, none⟩ (.int .u64 L)).setCell ⟨b, 1, none⟩ (.int .i64 k')) b (turnCells L k' r bu id) t := Blk.set h0 1 (.int .i64 k')
  have h2 : Blk (((w.setCell ⟨b, 0, none⟩ (.int .u64 L)).setCell ⟨b, 1, none⟩ (.int .i64 k')).setCell ⟨b, 2, none⟩ (.int .u64 r')) b (turnCells L k' r' bu id) t := Blk.set h1 2 (.int .u64 r')
  have h3 : Blk ((((w.setCell ⟨b, 0, none⟩ (.int .u64 L)).setCell ⟨b, 1, none⟩ (.int .i64 k')).setCell ⟨b, 2, none⟩ (.int .u64 r')).setCell ⟨b, 3, none⟩ (.int .u64 bu')) b (turnCells L k' r' bu' id) t := Blk.set h2 3 (.int .u64 bu')
  have h4 : Blk (((((w.setCell ⟨b, 0, none⟩ (.int .u64 L)).setCell ⟨b, 1, none⟩ (.int .i64 k')).setCell ⟨b, 2, none⟩ (.int .u64 r')).setCell ⟨b, 3, none⟩ (.int .u64 bu')).setCell ⟨b, 4, none⟩ (.int .u64 id')) b (turnCells L k' r' bu' id') t := Blk.set h3 4 (.int .u64 id')
  refine ⟨h4, ?_⟩
  have g0 : w.grownBy (w.setCell ⟨b, 0, none⟩ (.int .u64 L)) (some b) := only_setCell (only_refl _ _) (.inl rfl) _
  have g1 : w.grownBy ((w.setCell ⟨b, 0, none⟩ (.int .u64 L)).setCell ⟨b, 1, none⟩ (.int .i64 k')) (some b) := only_setCell g0 (.inl rfl) _
  have g2 : w.grownBy (((w.setCell ⟨b, 0, none⟩ (.int .u64 L)).setCell ⟨b, 1, none⟩ (.int .i64 k')).setCell ⟨b, 2, none⟩ (.int .u64 r')) (some b) := only_setCell g1 (.inl rfl) _
  have g3 : w.grownBy ((((w.setCell ⟨b, 0, none⟩ (.int .u64 L)).setCell ⟨b, 1, none⟩ (.int .i64 k')).setCell ⟨b, 2, none⟩ (.int .u64 r')).setCell ⟨b, 3, none⟩ (.int .u64 bu')) (some b) := only_setCell g2 (.inl rfl) _
  exact only_setCell g3 (.inl rfl) _

namespace turnPlays
set_option maxRecDepth 100000 in
set_option maxHeartbeats 4000000 in
theorem walk_no (L : Nat) (A : Option Addr) (n : Nat) (c : Nat) (w : World) (h : L < 1 ∨ 1000000000 < L) :
    Calls Try.prog 31 #[.int .u64 L, .slice A n c] w fun e w' => e = .returned (.bool true) ∧ Below w.heap.size w w' := by
  have M1 := Lib.hid fun W => tnew_no L h W
  have M2 := Lib.hid fun W => refNew_no L h W
  clear h
  go_enter Try.func31, Try.ntmps31
  go_wp2_with fail
  refine (awake21 _).mono ?_
  rintro e w1 ⟨rfl, hb1⟩
  have hz1 := hb1.size
  go_wp2_with fail
  refine (M1.out _).mono ?_
  rintro e w2 ⟨rfl, rfl⟩
  go_wp2_with fail
  refine (M2.out _).mono ?_
  rintro e w3 ⟨rfl, hb3⟩
  have hz3 := hb3.size
  go_wp2_with fail
  go_ret
  exact ⟨rfl, (hb1.trans (hb3.mono hz1)).alloc (by omega) _⟩

/-- what holds at the head of each round -/
structure Inv (i : Nat) (k : Int) (r bu id : Nat) : Prop where
  hun : i ≤ 100
  who : -1 ≤ k
  b1 : r < 18446744073709551616
  b2 : bu < 18446744073709551616
  b3 : id < 18446744073709551616

set_option maxRecDepth 100000 in
set_option maxHeartbeats 4000000 in
theorem walk_yes (L : Nat) (A : Option Addr) (n : Nat) (f : Nat → Deed21) (c : Nat) (w : World) (hA : Deeds w w.heap.size A n f) (hX : ∀ j, (f j).ok) (hn : n ≤ 9223372036854775807) (h1 : 1 ≤ L) (h2 : L ≤ 1000000000) :
    Calls Try.prog 31 #[.int .u64 L, .slice A n c] w fun e w' => e = .returned (.bool true) ∧ Below w.heap.size w w' := by
  go_enter Try.func31, Try.ntmps31
  go_wp2_with fail
  refine (awake21 _).mono ?_
  rintro e w1 ⟨rfl, hb1⟩
  have hz1 := hb1.size
  go_wp2_with fail
  refine (tnew_yes L h1 h2 _).mono ?_
  rintro e w2 ⟨rfl, hT2, hb2⟩
  obtain ⟨b, hb⟩ : ∃ b, b = w1.heap.size := ⟨_, rfl⟩
  rw [← hb] at hT2 hb2 hz1
  rw [← hb]
  have B2 := hb1.trans (hb2.mono hz1)
  have hz2 : b < w2.heap.size := Blk.lt hT2
  clear hb1 hb2 hb
  go_wp2_with fail
  refine (refNew_yes L h1 h2 _).mono ?_
  rintro e w3 ⟨rfl, hb3⟩
  have hz3 := hb3.size
  have hT3 : TurnAt (w3.alloc (.cells (turnCells L (-1) 0 0 0) 75)) b L (-1) 0 0 0 := Blk.alloc (Blk.below hT2 hb3 hz2) _
  have hX3 := Blk.new w3 (turnCells L (-1) 0 0 0) 75
  have B3 := (B2.trans (hb3.mono (by omega))).alloc (by omega) (.cells (turnCells L (-1) 0 0 0) 75)
  go_wp2_with fail
  obtain ⟨b2, hb2⟩ : ∃ b2, b2 = w3.heap.size := ⟨_, rfl⟩
  rw [← hb2] at hX3
  rw [← hb2]
  have hne : b < b2 := by omega
  have hwb : w.heap.size ≤ b := hz1
  clear hT2 B2 hb3 hz2 hb2 hz3
  go_loopw [10] (fun s10 wr => ∃ (i : Nat) (k : Int) (r bu id : Nat), i ≤ n ∧ s10 = .int .i64 i ∧ Hid (Inv i k r bu id) ∧ TurnAt wr b L k r bu id ∧ Blk wr b2 (turnCells L k r bu id) 75 ∧ Below w.heap.size w wr) (fun s10 _ => n - (intOf s10).toNat)
  case atStart => exact ⟨0, -1, 0, 0, 0, by omega, rfl, ⟨by omega, by omega, by omega, by omega, by omega⟩, hT3, hX3, B3⟩
  case round =>
    obtain ⟨i, k, r, bu, id, hin, rfl, HI, hT, hX2, hB⟩ := hrel
    clear hT3 hX3 B3
    have hzr := hB.size
    by_cases hlt : i < n
    · have z1 : decide ((i : Int) < (n : Int)) = true := decide_eq_true (by omega)
      have z2 : decide (i < n) = true := decide_eq_true hlt
      by_cases h100 : i < 100
      · have z3 : decide ((i : Int) < 100) = true := decide_eq_true (by omega)
        have z4 : decide (i < 100) = true := decide_eq_true h100
        obtain ⟨bd, off, rfl, hbd, hat⟩ := hA.at_ (by omega)
        obtain ⟨d0, d1, d2, d3, d4⟩ := (hat i hlt).below hB hbd
        obtain ⟨x1, x2, x3, x4, x5⟩ := hX i
        clear hat hA hX
        generalize f i = d at *
        obtain ⟨tk, task, ns, x, ld⟩ := d
        dsimp only at d0 d1 d2 d3 d4 x1 x2 x3 x4 x5
        have i0 : (0 : Int) ≤ (i : Int) := Int.natCast_nonneg _
        have i1 : (i : Int) < (n : Int) := by omega
        have hTa := hT.alloc' (.cells #[.bool tk, .int .i64 task, .int .u64 ns, .int .u64 x, .int .u64 ld] 79)
        have hXa := hX2.alloc (.cells #[.bool tk, .int .i64 task, .int .u64 ns, .int .u64 x, .int .u64 ld] 79)
        have hBa := hB.alloc hzr (.cells #[.bool tk, .int .i64 task, .int .u64 ns, .int .u64 x, .int .u64 ld] 79)
        have hDa := Blk.new wr #[.bool tk, .int .i64 task, .int .u64 ns, .int .u64 x, .int .u64 ld] 79
        have hbr : b2 < wr.heap.size := Blk.lt hX2
        obtain ⟨I0, I1, I2, I3, I4⟩ := HI.out
        clear HI
        cases tk
        · have M2 := Lib.hid fun W => refBegin_any L k r bu id W task
          have HJ : Hid (Inv (i + 1) (taskOf task) (ranOf k task r) bu id) := Lib.hid ⟨by omega, taskOf_ge _, by unfold ranOf; split <;> omega, I3, I4⟩
          have M1 := Lib.hid fun W h => begin_any b L k r bu id W h task x1 x2
          generalize taskOf task = k' at *
          generalize ranOf k task r = r' at *
          go_wp2_with fail
          refine (M1.out _ hTa).mono ?_
          rintro e w4 ⟨⟨v, rfl⟩, hT4, hg4⟩
          have hB4 := below_only hBa hg4 (by omega) (by simp; omega)
          have hX4 := hXa.kept hg4 (by simp; omega)
          have hD4 := Blk.kept hDa hg4 (by simp; omega)
          have hz4 := hg4.size
          simp at hz4
          obtain ⟨c0, c1, c2, c3, c4, cf⟩ := hX4.turn
          have e1 := hD4.cell 1
          simp at e1
          clear hT hB hTa hBa hDa hg4 M1 hX2 hXa
          go_wp2_with fail
          refine (M2.out _).mono ?_
          rintro e w5 ⟨rfl, hb5⟩
          have hz5 := hb5.size
          have hB5 := hB4.trans (hb5.mono (by omega))
          have hT5 : TurnAt w5 b L k' r' bu id := Blk.below hT4 hb5 (by omega)
          have hX5 := hX4.below hb5 (by omega)
          clear c0 c1 c2 c3 c4 cf e1 hT4 hX4 hD4 hb5 hB4 M2
          obtain ⟨c0, c1, c2, c3, c4, cf⟩ := hX5.turn
          obtain ⟨hX6, hg6⟩ := put5 hX5 k' r' bu id
          have HX6 := Lib.hid hX6
          have HG6 := Lib.hid hg6
          clear hX6 hg6 hX5
          go_wp2_with fail
          generalize ((((w5.setCell ⟨b2, 0, none⟩ (.int .u64 L)).setCell ⟨b2, 1, none⟩ (.int .i64 k')).setCell ⟨b2, 2, none⟩ (.int .u64 r')).setCell ⟨b2, 3, none⟩ (.int .u64 bu)).setCell ⟨b2, 4, none⟩ (.int .u64 id) = w6 at *
          have hX6 := HX6.out
          have hg6 := HG6.out
          clear c0 c1 c2 c3 c4 cf HX6 HG6
          have hT6 : TurnAt w6 b L k' r' bu id := Blk.kept hT5 hg6 (by simp; omega)
          have hB6 := below_only hB5 hg6 (by omega) (by omega)
          obtain ⟨c0, c1, c2, c3, c4, cf⟩ := hX6.turn
          clear hT5 hg6 hB5
          go_big_quiet ((first
            | (go_at_call 85; exact quiet_left (ttask_any _ _ _ _ _ _ _ (Blk.drewN hT6 _)))
            | (go_at_call 81; exact quiet_left (tran_any _ _ _ _ _ _ _ (Blk.drewN hT6 _)))
            | (go_at_call 86; exact quiet_left (tbusy_any _ _ _ _ _ _ _ (Blk.drewN hT6 _)))
            | (go_at_call 87; exact quiet_left (tidle_any _ _ _ _ _ _ _ (Blk.drewN hT6 _)))))
          go_wp2_with fail
          go_roundw
          case rel => exact ⟨i + 1, k', r', bu, id, by omega, by go_num, HJ, Blk.drewN hT6 _, Blk.drewN hX6 _, below_drewN hB6 _⟩
          case measure => simp [intOf]; omega
        · obtain ⟨D, E, r2, u2, i2, HJ, M1, M2⟩ : ∃ (D : Bool) (E : Int) (r2 u2 i2 : Nat), Hid (Inv (i + 1) k r2 u2 i2) ∧
              Hid (∀ W, TurnAt W b L k r bu id → Calls Try.prog 80 #[.pointer (some ⟨b, 0, none⟩), .int .u64 ns, .int .u64 x, .int .u64 ld] W fun e w' => e = .returned (.tuple #[.bool D, .int .i64 E]) ∧ TurnAt w' b L k r2 u2 i2 ∧ W.grownBy w' (some b)) ∧
              Hid (∀ W, Calls Try.prog 83 #[turnV L k r bu id, .int .u64 ns, .int .u64 x, .int .u64 ld] W fun e w' => e = .returned (.tuple #[turnV L k r2 u2 i2, .bool D, .int .i64 E]) ∧ Below W.heap.size W w') := by
            by_cases hns : 1000000000 < ns
            · refine ⟨false, 8, r, bu, id, Lib.hid ⟨by omega, I1, I2, I3, I4⟩, Lib.hid fun W h => ?_, Lib.hid fun W => refTick_much L k r bu id ns x ld hns W⟩
              exact (tick_much b ns x ld hns W).mono fun e w' ⟨he, hw⟩ => ⟨he, hw ▸ h, hw ▸ only_refl _ _⟩
            · refine ⟨_, 0, _, _, _, Lib.hid ⟨by omega, I1, runs_lt I2, runs_lt I3, idles_lt I4⟩, Lib.hid fun W h => ?_, Lib.hid fun W => refTick_ok L k r bu id W I1 ns x ld (by omega) I2 I3 I4 (by omega) x4 x5⟩
              exact tick_ok b L k r bu id W h I1 ns x ld (by omega) I2 I3 I4 (by omega) x4 x5
          have tD : (D != D) = false := by simp
          have tE : (E != E) = false := by simp
          go_wp2_with fail
          refine (M1.out _ hTa).mono ?_
          rintro e w4 ⟨rfl, hT4, hg4⟩
          have hB4 := below_only hBa hg4 (by omega) (by simp; omega)
          have hX4 := hXa.kept hg4 (by simp; omega)
          have hD4 := Blk.kept hDa hg4 (by simp; omega)
          have hz4 := hg4.size
          simp at hz4
          obtain ⟨c0, c1, c2, c3, c4, cf⟩ := hX4.turn
          have e2 := hD4.cell 2
          have e3 := hD4.cell 3
          have e4 := hD4.cell 4
          simp at e2 e3 e4
          clear hT hB hTa hBa hDa hg4 M1 hX2 hXa
          go_wp2_with fail
          refine (M2.out _).mono ?_
          rintro e w5 ⟨rfl, hb5⟩
          have hz5 := hb5.size
          have hB5 := hB4.trans (hb5.mono (by omega))
          have hT5 : TurnAt w5 b L k r2 u2 i2 := Blk.below hT4 hb5 (by omega)
          have hX5 := hX4.below hb5 (by omega)
          clear c0 c1 c2 c3 c4 cf e2 e3 e4 hT4 hX4 hD4 hb5 hB4 M2
          have hB5 := hB5.alloc (by omega) (.cells #[.int .u64 L, .int .i64 k, .int .u64 r2, .int .u64 u2, .int .u64 i2] 75)
          have hT5 := hT5.alloc' (.cells #[.int .u64 L, .int .i64 k, .int .u64 r2, .int .u64 u2, .int .u64 i2] 75)
          have hX5 := hX5.alloc (.cells #[.int .u64 L, .int .i64 k, .int .u64 r2, .int .u64 u2, .int .u64 i2] 75)
          obtain ⟨c0, c1, c2, c3, c4, cf⟩ := hX5.turn
          obtain ⟨hX6, hg6⟩ := put5 hX5 k r2 u2 i2
          have HX6 := Lib.hid hX6
          have HG6 := Lib.hid hg6
          clear hX6 hg6 hX5
          go_wp2_with fail
          generalize (((((w5.alloc (.cells #[.int .u64 L, .int .i64 k, .int .u64 r2, .int .u64 u2, .int .u64 i2] 75)).setCell ⟨b2, 0, none⟩ (.int .u64 L)).setCell ⟨b2, 1, none⟩ (.int .i64 k)).setCell ⟨b2, 2, none⟩ (.int .u64 r2)).setCell ⟨b2, 3, none⟩ (.int .u64 u2)).setCell ⟨b2, 4, none⟩ (.int .u64 i2) = w6 at *
          have hX6 := HX6.out
          have hg6 := HG6.out
          clear c0 c1 c2 c3 c4 cf HX6 HG6
          have hT6 : TurnAt w6 b L k r2 u2 i2 := Blk.kept hT5 hg6 (by simp; omega)
          have hB6 := below_only hB5 hg6 (by omega) (by simp; omega)
          obtain ⟨c0, c1, c2, c3, c4, cf⟩ := hX6.turn
          clear hT5 hg6 hB5
          go_wp2_with fail
          go_big_quiet ((first
            | (go_at_call 85; exact quiet_left (ttask_any _ _ _ _ _ _ _ (Blk.drewN hT6 _)))
            | (go_at_call 81; exact quiet_left (tran_any _ _ _ _ _ _ _ (Blk.drewN hT6 _)))
            | (go_at_call 86; exact quiet_left (tbusy_any _ _ _ _ _ _ _ (Blk.drewN hT6 _)))
            | (go_at_call 87; exact quiet_left (tidle_any _ _ _ _ _ _ _ (Blk.drewN hT6 _)))))
          go_wp2_with fail
          go_roundw
          case rel => exact ⟨i + 1, k, r2, u2, i2, by omega, by go_num, HJ, Blk.drewN hT6 _, Blk.drewN hX6 _, below_drewN hB6 _⟩
          case measure => simp [intOf]; omega
      · have z3 : decide ((i : Int) < 100) = false := decide_eq_false (by omega)
        have z4 : decide (i < 100) = false := decide_eq_false h100
        go_wp2_with fail
        go_ret
        exact ⟨rfl, hB⟩
    · obtain rfl : i = n := by omega
      have z1 : decide ((i : Int) < (i : Int)) = false := decide_eq_false (by omega)
      have z2 : decide (i < i) = false := decide_eq_false (by omega)
      go_wp2_with fail
      go_ret
      exact ⟨rfl, hB⟩

theorem walk (L : Nat) (A : Option Addr) (n : Nat) (f : Nat → Deed21) (c : Nat) (_hL : L < 18446744073709551616) (w : World) (hA : Deeds w w.heap.size A n f) (hX : ∀ j, (f j).ok) (hn : n ≤ 9223372036854775807) :
    Calls Try.prog 31 #[.int .u64 L, .slice A n c] w fun e w' => e = .returned (.bool true) ∧ Below w.heap.size w w' := by
  by_cases h : L < 1 ∨ 1000000000 < L
  · exact walk_no L A n c w h
  · exact walk_yes L A n f c w hA hX hn (by omega) (by omega)
end turnPlays

end Go.Proofs.Ytnpjacfefocjnaa
