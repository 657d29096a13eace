/-
  doleref02: Up, Compare; dolelaw02.awake.
-/
import Derived.Test.YtkemhcokkaanfaaRef
namespace Go.Proofs.Ytkemhcokkaanfaa
open Go.RowKit

end Go.Proofs.Ytkemhcokkaanfaa
