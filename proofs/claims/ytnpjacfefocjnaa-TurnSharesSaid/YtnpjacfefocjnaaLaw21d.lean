/-
  THE LAWS OF LAYER 21 (percpu), the walks, third part: all time. For every input it returns true. No conditions.
-/
import Derived.Test.YtnpjacfefocjnaaLaw21c
namespace Go.Proofs.Ytnpjacfefocjnaa
open Go.ChangeShapes Go.WideShapes Go.ChangeAt Go.RowKit

/-- what goes on while somebody is served, and while nobody is -/
def runs (k : Int) (a n : Nat) : Nat := if k < 0 then a else sat (a + n)
def idles (k : Int) (a n : Nat) : Nat := if k < 0 then sat (a + n) else a
def dueB (L : Nat) (k : Int) (x ld r n : Nat) : Bool := if k < 0 then false else decide (sliceN L x ld ≤ sat (r + n))
theorem runs_lt {k : Int} {a n : Nat} (h : a < 18446744073709551616) : runs k a n < 18446744073709551616 := by unfold runs; split; exact h; exact sat_lt _
theorem idles_lt {k : Int} {a n : Nat} (h : a < 18446744073709551616) : idles k a n < 18446744073709551616 := by unfold idles; split; exact sat_lt _; exact h

theorem tick_ok (b L : Nat) (k : Int) (r bu id : Nat) (w : World) (hT : TurnAt w b L k r bu id) (hk : -1 ≤ k) (n x ld : Nat) (hn : n ≤ 1000000000) (hr : r < 18446744073709551616) (hbu : bu < 18446744073709551616) (hid : id < 18446744073709551616) (hL : L < 18446744073709551616) (hx : x < 18446744073709551616) (hd : ld < 18446744073709551616) :
    Calls Try.prog 80 #[.pointer (some ⟨b, 0, none⟩), .int .u64 n, .int .u64 x, .int .u64 ld] w (Ticks (dueB L k x ld r n) b L k (runs k r n) (runs k bu n) (idles k id n) w) := by
  by_cases h : k < 0
  · obtain rfl : k = -1 := by omega
    exact tick_idle b L r bu id w hT n x ld hn hid
  · rw [show dueB L k x ld r n = decide (sliceN L x ld ≤ sat (r + n)) from if_neg h, show runs k r n = sat (r + n) from if_neg h, show runs k bu n = sat (bu + n) from if_neg h, show idles k id n = id from if_neg h]
    exact tick_busy b L k r bu id w hT (by omega) n x ld hn hr hbu hL hx hd

theorem TurnAt.alloc' {w : World} {b L : Nat} {k : Int} {r bu id : Nat} (h : TurnAt w b L k r bu id) (o : Obj) : TurnAt (w.alloc o) b L k r bu id := Blk.alloc h o

theorem Deeds.at_ {w : World} {B : Nat} {A : Option Addr} {n : Nat} {f : Nat → Deed21} (h : Deeds w B A n f) (hp : 0 < n) : ∃ b off : Nat, A = some ⟨b, off, none⟩ ∧ b < B ∧ ∀ j, j < n → DeedAt w b (off + j * 5) (f j) := by
  rcases h with h | h
  · omega
  · exact h
theorem DeedAt.below {w w' : World} {B b off : Nat} {d : Deed21} (h : DeedAt w b off d) (hb : Below B w w') (hlt : b < B) : DeedAt w' b off d :=
  ⟨(hb.cell (p := ⟨b, off, none⟩) hlt).trans h.1, (hb.cell (p := ⟨b, off + 1, none⟩) hlt).trans h.2.1, (hb.cell (p := ⟨b, off + 2, none⟩) hlt).trans h.2.2.1, (hb.cell (p := ⟨b, off + 3, none⟩) hlt).trans h.2.2.2.1, (hb.cell (p := ⟨b, off + 4, none⟩) hlt).trans h.2.2.2.2⟩

namespace turnAll
/-- what holds at the head of each round -/
structure Inv (i a : Nat) (k : Int) (r bu id : Nat) : Prop where
  sum : a = bu + id
  few : a ≤ i * 1000000
  ran : r ≤ bu
  who : -1 ≤ k
  hun : i ≤ 100

theorem Inv.beg {i a : Nat} {k : Int} {r bu id : Nat} (h : Inv i a k r bu id) (hi : i < 100) (task : Int) : Inv (i + 1) a (taskOf task) (ranOf k task r) bu id := by
  obtain ⟨h1, h2, h3, h4, h5⟩ := h
  refine ⟨h1, Nat.le_trans h2 (Nat.mul_le_mul_right _ (Nat.le_succ i)), ?_, taskOf_ge _, by omega⟩
  unfold ranOf
  split <;> omega

set_option maxRecDepth 100000 in
set_option maxHeartbeats 4000000 in
theorem walk (A : Option Addr) (n : Nat) (f : Nat → Deed21) (c : Nat) (w : World) (hA : Deeds w w.heap.size A n f) (hX : ∀ j, (f j).ok) (hn : n ≤ 9223372036854775807) :
    Calls Try.prog 32 #[.slice A n c] w fun e w' => e = .returned (.bool true) ∧ Below w.heap.size w w' := by
  go_enter Try.func32, Try.ntmps32
  go_wp2_with fail
  refine (awake21 _).mono ?_
  rintro e w1 ⟨rfl, hb1⟩
  have hz1 := hb1.size
  go_wp2_with fail
  refine (tnew_yes 1000 (by omega) (by omega) _).mono ?_
  rintro e w2 ⟨rfl, hT2, hb2⟩
  obtain ⟨b, hb⟩ : ∃ b, b = w1.heap.size := ⟨_, rfl⟩
  rw [← hb] at hT2 hb2 hz1
  rw [← hb]
  have B2 := hb1.trans (hb2.mono hz1)
  have hz2 : w.heap.size ≤ w2.heap.size := B2.size
  clear hb1 hb2 hb
  go_wp2_with fail
  go_loopw [6, 7, 8] (fun s6 s7 s8 wr => ∃ (i a : Nat) (k : Int) (r bu id : Nat), i ≤ n ∧ s8 = .int .i64 i ∧ s6 = .int .u64 a ∧ s7 = .int .u64 bu ∧ Hid (Inv i a k r bu id) ∧ TurnAt wr b 1000 k r bu id ∧ Below w.heap.size w wr) (fun _ _ s8 _ => n - (intOf s8).toNat)
  case atStart => exact ⟨0, 0, -1, 0, 0, 0, by omega, rfl, rfl, rfl, ⟨by omega, by omega, by omega, by omega, by omega⟩, hT2, B2⟩
  case round =>
    obtain ⟨i, a, k, r, bu, id, hin, rfl, rfl, rfl, HI, hT, hB⟩ := hrel
    have hzr := hB.size
    by_cases hlt : i < n
    · have z1 : decide ((i : Int) < (n : Int)) = true := decide_eq_true (by omega)
      have z2 : decide (i < n) = true := decide_eq_true hlt
      by_cases h100 : i < 100
      · have z3 : decide ((i : Int) < 100) = true := decide_eq_true (by omega)
        have z4 : decide (i < 100) = true := decide_eq_true h100
        obtain ⟨bd, off, rfl, hbd, hat⟩ := hA.at_ (by omega)
        obtain ⟨d0, d1, d2, d3, d4⟩ := (hat i hlt).below hB hbd
        obtain ⟨x1, x2, x3, x4, x5⟩ := hX i
        clear hat hA hX
        generalize f i = d at *
        obtain ⟨tk, task, ns, x, ld⟩ := d
        dsimp only at d0 d1 d2 d3 d4 x1 x2 x3 x4 x5
        have i0 : (0 : Int) ≤ (i : Int) := Int.natCast_nonneg _
        have i1 : (i : Int) < (n : Int) := by omega
        have hTa := hT.alloc' (.cells #[.bool tk, .int .i64 task, .int .u64 ns, .int .u64 x, .int .u64 ld] 79)
        have hBa := hB.alloc hzr (.cells #[.bool tk, .int .i64 task, .int .u64 ns, .int .u64 x, .int .u64 ld] 79)
        have hDa := Blk.new wr #[.bool tk, .int .i64 task, .int .u64 ns, .int .u64 x, .int .u64 ld] 79
        have hbr : b < wr.heap.size := Blk.lt hT
        cases tk
        · have HJ : Hid (Inv (i + 1) a (taskOf task) (ranOf k task r) bu id) := Lib.hid (HI.out.beg h100 task)
          go_wp2_with fail
          refine (begin_any _ _ _ _ _ _ _ hTa task x1 x2).mono ?_
          rintro e w3 ⟨⟨v, rfl⟩, hT3, hg3⟩
          have hB3 := below_only hBa hg3 hz1 (by simp; omega)
          clear hT hB hTa hBa hDa hg3
          go_wp2_with fail
          go_roundw
          case rel => exact ⟨i + 1, a, _, _, _, _, by omega, by go_num, rfl, rfl, HJ, hT3, hB3⟩
          case measure => simp [intOf]; omega
        · obtain ⟨m, hm⟩ : ∃ m, m = ns % 1000001 := ⟨_, rfl⟩
          have em : (ns : Int) % 1000001 = (m : Int) := by omega
          have I := HI.out
          have I1 := I.sum
          have I2 := I.few
          have I3 := I.ran
          have I4 := I.who
          have m1 : m ≤ 1000000 := by omega
          have M1 := Lib.hid fun W h => tick_ok b 1000 k r bu id W h I4 m x ld (by omega) (by omega) (by omega) (by omega) (by omega) x4 x5
          have sr : runs k r m = if k < 0 then r else r + m := by unfold runs; split; rfl; exact sat_in _ (by omega)
          have sb : runs k bu m = if k < 0 then bu else bu + m := by unfold runs; split; rfl; exact sat_in _ (by omega)
          have si : idles k id m = if k < 0 then id + m else id := by unfold idles; split; exact sat_in _ (by omega); rfl
          have HJ : Hid (Inv (i + 1) (a + m) k (runs k r m) (runs k bu m) (idles k id m)) := by
            refine ⟨?_, by omega, ?_, I4, by omega⟩
            · rw [sb, si]; split <;> omega
            · rw [sr, sb]; split <;> omega
          have bb : bu + m < 18446744073709551616 := by omega
          have ba : a + m < 18446744073709551616 := by omega
          have lb : runs k bu m < 18446744073709551616 := by rw [sb]; split <;> omega
          have lr : decide (runs k bu m < runs k r m) = false := decide_eq_false (by have := HJ.out.ran; omega)
          have ek : (k ≥ 0 ∧ (bu : Int) + (m : Int) = (runs k bu m : Int)) ∨ (k < 0 ∧ runs k bu m = bu) := by
            rw [sb]; by_cases h : k < 0
            · right; exact ⟨h, if_pos h⟩
            · left; rw [if_neg h]; exact ⟨by omega, by omega⟩
          generalize dueB 1000 k x ld r m = D at *
          generalize runs k r m = r2 at *
          generalize runs k bu m = b2 at *
          generalize idles k id m = i2 at *
          clear sr sb si I I1 I2 I3 hm HI
          go_wp2_with fail
          refine (M1.out _ hTa).mono ?_
          rintro e w3 ⟨rfl, hT3, hg3⟩
          have hB3 := below_only hBa hg3 hz1 (by simp; omega)
          have hD3 := Blk.kept hDa hg3 (by simp; omega)
          have k2 := hD3.cell 2
          simp at k2
          clear hT hB hTa hBa hDa hg3 M1
          go_wp2_with fail
          refine (ttask_any _ _ _ _ _ _ _ hT3).mono ?_
          rintro e w4 ⟨rfl, rfl⟩
          rcases ek with ⟨hk, eb⟩ | ⟨hk, rfl⟩
          · have z5 : decide (0 ≤ k) = true := decide_eq_true hk
            go_wp2_with fail
            refine (tran_any _ _ _ _ _ _ _ hT3).mono ?_
            rintro e w4 ⟨rfl, rfl⟩
            go_wp2_with fail
            refine (tbusy_any _ _ _ _ _ _ _ hT3).mono ?_
            rintro e w4 ⟨rfl, rfl⟩
            go_wp2_with fail
            go_roundw
            case rel => exact ⟨i + 1, a + m, _, _, _, _, by omega, by go_num, by go_num, rfl, HJ, hT3, hB3⟩
            case measure => simp [intOf]; omega
          · have z5 : decide (0 ≤ k) = false := decide_eq_false (by omega)
            go_wp2_with fail
            refine (tran_any _ _ _ _ _ _ _ hT3).mono ?_
            rintro e w4 ⟨rfl, rfl⟩
            go_wp2_with fail
            refine (tbusy_any _ _ _ _ _ _ _ hT3).mono ?_
            rintro e w4 ⟨rfl, rfl⟩
            go_wp2_with fail
            go_roundw
            case rel => exact ⟨i + 1, a + m, _, _, _, _, by omega, by go_num, by go_num, rfl, HJ, hT3, hB3⟩
            case measure => simp [intOf]; omega
      · have z3 : decide ((i : Int) < 100) = false := decide_eq_false (by omega)
        have z4 : decide (i < 100) = false := decide_eq_false h100
        have E := HI.out.sum
        have E2 := HI.out.few
        have E3 := HI.out.hun
        have e1 : (bu : Int) + (id : Int) = (a : Int) := by omega
        have e2 : a < 18446744073709551616 := by omega
        clear E E2 E3 HI
        go_wp2_with fail
        refine (tbusy_any _ _ _ _ _ _ _ hT).mono ?_
        rintro e w4 ⟨rfl, rfl⟩
        go_wp2_with fail
        refine (tidle_any _ _ _ _ _ _ _ hT).mono ?_
        rintro e w4 ⟨rfl, rfl⟩
        go_wp2_with fail
        refine (tbusy_any _ _ _ _ _ _ _ hT).mono ?_
        rintro e w4 ⟨rfl, rfl⟩
        go_wp2_with fail
        go_ret
        exact ⟨rfl, hB⟩
    · obtain rfl : i = n := by omega
      have z1 : decide ((i : Int) < (i : Int)) = false := decide_eq_false (by omega)
      have z2 : decide (i < i) = false := decide_eq_false (by omega)
      have E := HI.out.sum
      have E2 := HI.out.few
      have E3 := HI.out.hun
      have e1 : (bu : Int) + (id : Int) = (a : Int) := by omega
      have e2 : a < 18446744073709551616 := by omega
      clear E E2 E3 HI
      go_wp2_with fail
      refine (tbusy_any _ _ _ _ _ _ _ hT).mono ?_
      rintro e w4 ⟨rfl, rfl⟩
      go_wp2_with fail
      refine (tidle_any _ _ _ _ _ _ _ hT).mono ?_
      rintro e w4 ⟨rfl, rfl⟩
      go_wp2_with fail
      refine (tbusy_any _ _ _ _ _ _ _ hT).mono ?_
      rintro e w4 ⟨rfl, rfl⟩
      go_wp2_with fail
      go_ret
      exact ⟨rfl, hB⟩
end turnAll

end Go.Proofs.Ytnpjacfefocjnaa
