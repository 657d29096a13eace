/-
  THE LAWS OF LAYER 21 (percpu), the walks, fourth part: plays. For every input it returns true. No conditions.
-/
import Derived.Test.YtkemhcokkaanfaaLaw21d
namespace Go.Proofs.Ytkemhcokkaanfaa
open Go.ChangeShapes Go.WideShapes Go.ChangeAt Go.RowKit

theorem Blk.turn {w : World} {b L : Nat} {k : Int} {r bu id : Nat} {t : TypeId} (h : Blk w b (turnCells L k r bu id) t) :
    w.cell? ⟨b, 0, none⟩ = some (.int .u64 L) ∧ w.cell? ⟨b, 1, none⟩ = some (.int .i64 k) ∧ w.cell? ⟨b, 2, none⟩ = some (.int .u64 r) ∧ w.cell? ⟨b, 3, none⟩ = some (.int .u64 bu) ∧ w.cell? ⟨b, 4, none⟩ = some (.int .u64 id) ∧ ∀ i, w.frozen? ⟨b, i, none⟩ = false :=
  ⟨Blk.cell h 0, Blk.cell h 1, Blk.cell h 2, Blk.cell h 3, Blk.cell h 4, Blk.frozen h⟩

theorem put5 {w : World} {b L : Nat} {k : Int} {r bu id : Nat} {t : TypeId} (h : Blk w b (turnCells L k r bu id) t) (k' : Int) (r' bu' id' : Nat) :
    Blk (((((w.setCell ⟨b, 0, none⟩ (.int .u64 L)).setCell ⟨b, 1, none⟩ (.int .i64 k')).setCell ⟨b, 2, none⟩ (.int .u64 r')).setCell ⟨b, 3, none⟩ (.int .u64 bu')).setCell ⟨b, 4, none⟩ (.int .u64 id')) b (turnCells L k' r' bu' id') t ∧
    w.grownBy (((((w.setCell ⟨b, 0, none⟩ (.int .u64 L)).setCell ⟨b, 1, none⟩ (.int .i64 k')).setCell ⟨b, 2, none⟩ (.int .u64 r')).setCell ⟨b, 3, none⟩ (.int .u64 bu')).setCell ⟨b, 4, none⟩ (.int .u64 id')) (some b) := by
  have h0 : Blk (w.setCell ⟨b, 0, none⟩ (.int .u64 L)) b (turnCells L k r bu id) t := Blk.set h 0 (.int .u64 L)
  have h1 : Blk ((w.setCell ⟨b, 0, none⟩ (.int .u64 L)).setCell ⟨b, 1, none⟩ (.int .i64 k')) b (turnCells L k' r bu id) t := Blk.set h0 1 (.int .i64 k')
  have h2 : Blk (((w.setCell ⟨b, 0, none⟩ (.int .u64 L)).setCell ⟨b, 1, none⟩ (.int .i64 k')).setCell ⟨b, 2, none⟩ (.int .u64 r')) b (turnCells L k' r' bu id) t := Blk.set h1 2 (.int .u64 r')
  have h3 : Blk ((((w.setCell ⟨b, 0, none⟩ (.int .u64 L)).setCell ⟨b, 1, none⟩ (.int .i64 k')).setCell ⟨b, 2, none⟩ (.int .u64 r')).setCell ⟨b, 3, none⟩ (.int .u64 bu')) b (turnCells L k' r' bu' id) t := Blk.set h2 3 (.int .u64 bu')
  have h4 : Blk (((((w.setCell ⟨b, 0, none⟩ (.int .u64 L)).setCell ⟨b, 1, none⟩ (.int .i64 k')).setCell ⟨b, 2, none⟩ (.int .u64 r')).setCell ⟨b, 3, none⟩ (.int .u64 bu')).setCell ⟨b, 4, none⟩ (.int .u64 id')) b (turnCells L k' r' bu' id') t := Blk.set h3 4 (.int .u64 id')
  refine ⟨h4, ?_⟩
  have g0 : w.grownBy (w.setCell ⟨b, 0, none⟩ (.int .u64 L)) (some b) := only_setCell (only_refl _ _) (.inl rfl) _
  have g1 : w.grownBy ((w.setCell ⟨b, 0, none⟩ (.int .u64 L)).setCell ⟨b, 1, none⟩ (.int .i64 k')) (some b) := only_setCell g0 (.inl rfl) _
  have g2 : w.grownBy (((w.setCell ⟨b, 0, none⟩ (.int .u64 L)).setCell ⟨b, 1, none⟩ (.int .i64 k')).setCell ⟨b, 2, none⟩ (.int .u64 r')) (some b) := only_setCell g1 (.inl rfl) _
  have g3 : w.grownBy ((((w.setCell ⟨b, 0, none⟩ (.int .u64 L)).setCell ⟨b, 1, none⟩ (.int .i64 k')).setCell ⟨b, 2, none⟩ (.int .u64 r')).setCell ⟨b, 3, none⟩ (.int .u64 bu')) (some b) := only_setCell g2 (.inl rfl) _
  exact only_setCell g3 (.inl rfl) _

namespace turnPlays
/-- what holds at the head of each round -/
structure Inv (i : Nat) (k : Int) (r bu id : Nat) : Prop where
  hun : i ≤ 100
  who : -1 ≤ k
  b1 : r < 18446744073709551616
  b2 : bu < 18446744073709551616
  b3 : id < 18446744073709551616

end turnPlays

end Go.Proofs.Ytkemhcokkaanfaa
