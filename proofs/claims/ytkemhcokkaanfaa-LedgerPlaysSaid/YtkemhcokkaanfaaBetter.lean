/-
  percpu.Better, doleref21.Better.
-/
import Derived.Test.YtkemhcokkaanfaaFix
import Derived.Deep.RegionHeld3
import Derived.Deep.QuietTactic
import Derived.BigQuiet
namespace Go.Proofs.Ytkemhcokkaanfaa
open Go.RowKit

/-- a callee that leaves the world alone, within a quiet region -/
theorem quiet_left {P : Program} {f : FuncId} {args : Array Value} {w : World} {n : Nat} {v : Value}
    (h : Calls P f args (w.drewN n) fun e w' => e = .returned v ∧ w.drewN n = w') : Calls P f args (w.drewN n) fun e w'' => e = .returned v ∧ ∃ m, w'' = w.drewN m :=
  h.mono fun _ _ ⟨he, hm⟩ => ⟨he, n, hm.symm⟩

/-- an entity by value -/
abbrev entV (i : Int) (x : Nat) (v : Int) (r : Nat) : Value := .agg #[.int .i64 i, .int .u64 x, .int .i64 v, .int .u64 r]

def betterB (v u g : Int) : Bool := decide (satZ u (holdZ g 0 1099511627776) < v)

end Go.Proofs.Ytkemhcokkaanfaa
