/-
  doleref21.New, Begin, Tick: a clock by value.
-/
import Derived.Test.YtkemhcokkaanfaaTurn3
namespace Go.Proofs.Ytkemhcokkaanfaa
open Go.RowKit

/-- a clock by value -/
abbrev turnV (L : Nat) (k : Int) (r bu id : Nat) : Value := .agg #[.int .u64 L, .int .i64 k, .int .u64 r, .int .u64 bu, .int .u64 id]

end Go.Proofs.Ytkemhcokkaanfaa
