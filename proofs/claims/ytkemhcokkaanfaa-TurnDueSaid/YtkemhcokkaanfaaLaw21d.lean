/-
  THE LAWS OF LAYER 21 (percpu), the walks, third part: all time. For every input it returns true. No conditions.
-/
import Derived.Test.YtkemhcokkaanfaaLaw21c
namespace Go.Proofs.Ytkemhcokkaanfaa
open Go.ChangeShapes Go.WideShapes Go.ChangeAt Go.RowKit

/-- what goes on while somebody is served, and while nobody is -/
def runs (k : Int) (a n : Nat) : Nat := if k < 0 then a else sat (a + n)
def idles (k : Int) (a n : Nat) : Nat := if k < 0 then sat (a + n) else a
def dueB (L : Nat) (k : Int) (x ld r n : Nat) : Bool := if k < 0 then false else decide (sliceN L x ld ≤ sat (r + n))
theorem runs_lt {k : Int} {a n : Nat} (h : a < 18446744073709551616) : runs k a n < 18446744073709551616 := by unfold runs; split; exact h; exact sat_lt _
theorem idles_lt {k : Int} {a n : Nat} (h : a < 18446744073709551616) : idles k a n < 18446744073709551616 := by unfold idles; split; exact sat_lt _; exact h

theorem tick_ok (b L : Nat) (k : Int) (r bu id : Nat) (w : World) (hT : TurnAt w b L k r bu id) (hk : -1 ≤ k) (n x ld : Nat) (hn : n ≤ 1000000000) (hr : r < 18446744073709551616) (hbu : bu < 18446744073709551616) (hid : id < 18446744073709551616) (hL : L < 18446744073709551616) (hx : x < 18446744073709551616) (hd : ld < 18446744073709551616) :
    Calls Try.prog 28 #[.pointer (some ⟨b, 0, none⟩), .int .u64 n, .int .u64 x, .int .u64 ld] w (Ticks (dueB L k x ld r n) b L k (runs k r n) (runs k bu n) (idles k id n) w) := by
  by_cases h : k < 0
  · obtain rfl : k = -1 := by omega
    exact tick_idle b L r bu id w hT n x ld hn hid
  · rw [show dueB L k x ld r n = decide (sliceN L x ld ≤ sat (r + n)) from if_neg h, show runs k r n = sat (r + n) from if_neg h, show runs k bu n = sat (bu + n) from if_neg h, show idles k id n = id from if_neg h]
    exact tick_busy b L k r bu id w hT (by omega) n x ld hn hr hbu hL hx hd

theorem TurnAt.alloc' {w : World} {b L : Nat} {k : Int} {r bu id : Nat} (h : TurnAt w b L k r bu id) (o : Obj) : TurnAt (w.alloc o) b L k r bu id := Blk.alloc h o

theorem Deeds.at_ {w : World} {B : Nat} {A : Option Addr} {n : Nat} {f : Nat → Deed21} (h : Deeds w B A n f) (hp : 0 < n) : ∃ b off : Nat, A = some ⟨b, off, none⟩ ∧ b < B ∧ ∀ j, j < n → DeedAt w b (off + j * 5) (f j) := by
  rcases h with h | h
  · omega
  · exact h
theorem DeedAt.below {w w' : World} {B b off : Nat} {d : Deed21} (h : DeedAt w b off d) (hb : Below B w w') (hlt : b < B) : DeedAt w' b off d :=
  ⟨(hb.cell (p := ⟨b, off, none⟩) hlt).trans h.1, (hb.cell (p := ⟨b, off + 1, none⟩) hlt).trans h.2.1, (hb.cell (p := ⟨b, off + 2, none⟩) hlt).trans h.2.2.1, (hb.cell (p := ⟨b, off + 3, none⟩) hlt).trans h.2.2.2.1, (hb.cell (p := ⟨b, off + 4, none⟩) hlt).trans h.2.2.2.2⟩

namespace turnAll
/-- what holds at the head of each round -/
structure Inv (i a : Nat) (k : Int) (r bu id : Nat) : Prop where
  sum : a = bu + id
  few : a ≤ i * 1000000
  ran : r ≤ bu
  who : -1 ≤ k
  hun : i ≤ 100

theorem Inv.beg {i a : Nat} {k : Int} {r bu id : Nat} (h : Inv i a k r bu id) (hi : i < 100) (task : Int) : Inv (i + 1) a (taskOf task) (ranOf k task r) bu id := by
  obtain ⟨h1, h2, h3, h4, h5⟩ := h
  refine ⟨h1, Nat.le_trans h2 (Nat.mul_le_mul_right _ (Nat.le_succ i)), ?_, taskOf_ge _, by omega⟩
  unfold ranOf
  split <;> omega

end turnAll

end Go.Proofs.Ytkemhcokkaanfaa
