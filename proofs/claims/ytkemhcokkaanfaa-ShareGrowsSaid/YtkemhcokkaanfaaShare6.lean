/-
  doleref11.Split.
-/
import Derived.Test.YtkemhcokkaanfaaShare5
import Derived.Deep.RegionHeld3
import Derived.Deep.AppendLies
namespace Go.Proofs.Ytkemhcokkaanfaa
open Go.RowKit

end Go.Proofs.Ytkemhcokkaanfaa
