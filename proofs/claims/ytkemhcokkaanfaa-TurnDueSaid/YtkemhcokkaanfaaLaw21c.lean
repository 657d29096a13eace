/-
  THE LAWS OF LAYER 21 (percpu): the arguments opened.
-/
import Derived.Test.YtkemhcokkaanfaaLaw21b
import Derived.Test.YtkemhcokkaanfaaOpen2
namespace Go.Proofs.Ytkemhcokkaanfaa
open Go.ChangeShapes Go.WideShapes Go.ChangeAt Go.RowKit

/-- a deed -/
structure Deed21 where
  ticks : Bool
  task : Int
  ns : Nat
  x : Nat
  ld : Nat
def Deed21.none : Deed21 := ⟨false, 0, 0, 0, 0⟩
def Deed21.ok (d : Deed21) : Prop := -9223372036854775808 ≤ d.task ∧ d.task ≤ 9223372036854775807 ∧ d.ns < 18446744073709551616 ∧ d.x < 18446744073709551616 ∧ d.ld < 18446744073709551616
theorem Deed21.none_ok : Deed21.none.ok := by unfold Deed21.ok Deed21.none; decide
/-- the cells of deed j -/
def DeedAt (w : World) (b off : Nat) (d : Deed21) : Prop :=
  w.cell? ⟨b, off, none⟩ = some (.bool d.ticks) ∧ w.cell? ⟨b, off + 1, none⟩ = some (.int .i64 d.task) ∧ w.cell? ⟨b, off + 2, none⟩ = some (.int .u64 d.ns) ∧ w.cell? ⟨b, off + 3, none⟩ = some (.int .u64 d.x) ∧ w.cell? ⟨b, off + 4, none⟩ = some (.int .u64 d.ld)
def Deeds (w : World) (B : Nat) (A : Option Addr) (n : Nat) (f : Nat → Deed21) : Prop :=
  n = 0 ∨ ∃ b off : Nat, A = some ⟨b, off, none⟩ ∧ b < B ∧ ∀ j, j < n → DeedAt w b (off + j * 5) (f j)

section
variable {H : Type} {enc : TypeId × Value → H} {W : World} {v : Value} {d : DataW H} {p : List MemPlace} {b0 : Nat}
set_option maxRecDepth 100000 in
theorem open_due (hv : Value.okWide Try.prog W .any b0 37 v) (h : DataW.Trod enc Try.prog W 0 (fun _ => true) true 37 v d p) :
    ∃ (l x o : Nat) (A : Option Addr) (xs : List Nat) (c : Nat), v = .agg #[.int .u32 l, .int .u16 x, .int .u16 o, .slice A xs.length c] ∧ l < 4294967296 ∧ x < 65536 ∧ o < 65536 ∧ NumsAt .u16 W W.heap.size A xs ∧ (∀ j, j < xs.length → xs.getD j 0 < 65536) ∧ xs.length ≤ 9223372036854775807 := by
  obtain ⟨v0, v1, v2, v3, y0, y1, y2, y3, n, rfl, _, _, h0, h1, h2, h3⟩ := Joins.open_agg4 Try.underlying37 (by kernel_rfl) (by kernel_rfl) hv h
  obtain ⟨l, rfl, bl⟩ := trod_u32 Try.underlying27 h0
  obtain ⟨x, rfl, bx⟩ := trod_u16 Try.underlying30 h1
  obtain ⟨o, rfl, bo⟩ := trod_u16 Try.underlying30 h2
  obtain ⟨A, xs, c, rfl, hU, hX, hL⟩ := trod_nums 65536 Try.underlying33 Try.underlying30 (by kernel_rfl) (fun z hz => by have := bounds_u16 hz; omega) h3
  exact ⟨l, x, o, A, xs, c, rfl, bl, bx, bo, hU, hX, hL⟩
end

end Go.Proofs.Ytkemhcokkaanfaa
