/-
  Maps of whole numbers: what is known of their keys.
-/
import Derived.Maps.OwnSet
import Derived.Carry
import Derived.WalkSpells
import Derived.OpenShut
import Derived.Test.YtkemhcokkaanfaaTr
import Derived.Test.YtkemhcokkaanfaaShelf
import Derived.Test.YtkemhcokkaanfaaRows
namespace Go.Proofs.Ytkemhcokkaanfaa
open Go.RowKit Go.Maps

theorem lawI : Keyed Try.prog 3 := int_keyed Try.underlying3
theorem zero64 (w : World) : (zeroValue 2).run Try.prog w = .ok (.int .i64 0) w := by kernel_rfl
theorem wf64 {n : Int} (h1 : -9223372036854775808 ≤ n) (h2 : n ≤ 9223372036854775807) : (Lit.int .i64 n).wf = true := by
  simp [Lit.wf, IntKind.min, IntKind.max, IntKind.signed, IntKind.bits]
  omega
theorem key64 {n : Int} (h : (Lit.int .i64 n).wf = true) : keyOf Try.prog 3 (.int .i64 n) = some (.int .i64 n) := keyOf_int_mk Try.underlying3 h

def upd (f : Int → Int) (k v : Int) : Int → Int := fun x => if x = k then v else f x
theorem upd_same (f : Int → Int) (k v : Int) : upd f k v k = v := if_pos rfl
theorem upd_other (f : Int → Int) {k x : Int} (v : Int) (h : x ≠ k) : upd f k v x = f x := if_neg h

theorem Turns.cell {S : List Nat} {w w' : World} (h : Turns S w w') {a : Addr} (hb : a.block < w.heap.size) (hn : a.block ∉ S) : w'.cell? a = w.cell? a := by
  have := h.block a.block hb hn
  unfold World.cell?
  rw [this]


end Go.Proofs.Ytkemhcokkaanfaa
