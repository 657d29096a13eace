/-
  No cell of these rows narrows 'for every input' (looked for: loops, veiled, ifaces, maps, wideKeys, modest, calm, conditions, laid).
  DERIVED. THE GIVEN ROWS OF THIS SEAT. 18 by the template 'for every input the law returns true; each argument reads behind the call as it read before'; 0 by the template 'total and deterministic' (their statements: YtkemhcokkaanfaaTotals.lean).
  GIVEN WITH THE SEED: the statements are not yours to turn. If you find one false, say at which input.
  Laid BY PROGRAM, IN A SANDBOX (cutbox-rows.mjs): the forced cells as the released guide's own fill.sh prints them over the translation 4d7753d9cb74c8d8… (all of the seat's roots in one cut). By AI agents, Wed Nov 11 2026. No macro, syntax, notation, axiom, sorry.
-/
import Derived.Test.YtkemhcokkaanfaaChecked
import GoSem.Claim
import GoSem.ClaimJoined
import GoSem.ClaimMapViews
import Derived.JoinedTies
import Derived.KernelRfl
namespace Go.Proofs.Ytkemhcokkaanfaa
/- THE CELL 'sum', in the pinned program and in every row, IS THE sha256 OF THE DUMP (.gsa) THAT YtkemhcokkaanfaaProg.lean LOADS. Nothing in Lean hashes anything: it is a label: what it is worth is what the hold of that sum in a sandbox is worth. -/
noncomputable def Try.pinned : Pinned := { name := "ytkemhcokkaanfaa", sum := "4d7753d9cb74c8d87bb1efb00ddd992e18315eac8d3ad44a59edb62c5cd32c0a", checked := Try.checked }
namespace Rows
def none {H : Type} : Left H := { results := [], args := [] }

/-- 'dolelaw11.ShareGrows': WHATEVER THE INPUT: true; the input reads as it did. -/
def shareGrowsSpec : ChangeSpec := { name := "shareGrows", fn := fun _ => fun
  | [d1, d2, d3] => { results := [.lit (.bool true)], args := [d1, d2, d3] }
  | _ => none }
def shareGrowsRow : OpenClaim := { program := "ytkemhcokkaanfaa", sum := "4d7753d9cb74c8d87bb1efb00ddd992e18315eac8d3ad44a59edb62c5cd32c0a", func := "dole/dolelaw11.ShareGrows", spec := "shareGrows", inPlace := ["math/bits.Add64"], unfollowed := true, recurses := true, named := ["math/bits.divideError", "math/bits.overflowError"], apart := false }
def ShareGrowsSaid : Prop := shareGrowsRow.holds Try.pinned (OpenSpec.ofChange shareGrowsSpec)

/-- ITS FALSE NEIGHBOUR: 'it returns false'. Refute it at one input. -/
def shareGrowsWrong : ChangeSpec := { name := "shareGrows", fn := fun _ => fun
  | [d1, d2, d3] => { results := [.lit (.bool false)], args := [d1, d2, d3] }
  | _ => none }
def ShareGrowsWrongFalsely : Prop := shareGrowsRow.holds Try.pinned (OpenSpec.ofChange shareGrowsWrong)

/-- 'dolelaw11.ShareSums': WHATEVER THE INPUT: true; the input reads as it did. -/
def shareSumsSpec : ChangeSpec := { name := "shareSums", fn := fun _ => fun
  | [d1, d2] => { results := [.lit (.bool true)], args := [d1, d2] }
  | _ => none }
def shareSumsRow : OpenClaim := { program := "ytkemhcokkaanfaa", sum := "4d7753d9cb74c8d87bb1efb00ddd992e18315eac8d3ad44a59edb62c5cd32c0a", func := "dole/dolelaw11.ShareSums", spec := "shareSums", inPlace := ["math/bits.Add64"], unfollowed := true, recurses := true, named := ["math/bits.divideError", "math/bits.overflowError"], apart := false }
def ShareSumsSaid : Prop := shareSumsRow.holds Try.pinned (OpenSpec.ofChange shareSumsSpec)

/-- ITS FALSE NEIGHBOUR: 'it returns false'. Refute it at one input. -/
def shareSumsWrong : ChangeSpec := { name := "shareSums", fn := fun _ => fun
  | [d1, d2] => { results := [.lit (.bool false)], args := [d1, d2] }
  | _ => none }
def ShareSumsWrongFalsely : Prop := shareSumsRow.holds Try.pinned (OpenSpec.ofChange shareSumsWrong)

/-- 'dolelaw11.ShareScales': WHATEVER THE INPUT: true; the input reads as it did. -/
def shareScalesSpec : ChangeSpec := { name := "shareScales", fn := fun _ => fun
  | [d1, d2, d3] => { results := [.lit (.bool true)], args := [d1, d2, d3] }
  | _ => none }
def shareScalesRow : OpenClaim := { program := "ytkemhcokkaanfaa", sum := "4d7753d9cb74c8d87bb1efb00ddd992e18315eac8d3ad44a59edb62c5cd32c0a", func := "dole/dolelaw11.ShareScales", spec := "shareScales", inPlace := ["math/bits.Add64"], unfollowed := true, recurses := true, named := ["math/bits.divideError", "math/bits.overflowError"], apart := false }
def ShareScalesSaid : Prop := shareScalesRow.holds Try.pinned (OpenSpec.ofChange shareScalesSpec)

/-- ITS FALSE NEIGHBOUR: 'it returns false'. Refute it at one input. -/
def shareScalesWrong : ChangeSpec := { name := "shareScales", fn := fun _ => fun
  | [d1, d2, d3] => { results := [.lit (.bool false)], args := [d1, d2, d3] }
  | _ => none }
def ShareScalesWrongFalsely : Prop := shareScalesRow.holds Try.pinned (OpenSpec.ofChange shareScalesWrong)

/-- 'dolelaw21.TurnShares': WHATEVER THE INPUT: true; the input reads as it did. -/
def turnSharesSpec : ChangeSpec := { name := "turnShares", fn := fun _ => fun
  | [d1, d2] => { results := [.lit (.bool true)], args := [d1, d2] }
  | _ => none }
def turnSharesRow : OpenClaim := { program := "ytkemhcokkaanfaa", sum := "4d7753d9cb74c8d87bb1efb00ddd992e18315eac8d3ad44a59edb62c5cd32c0a", func := "dole/dolelaw21.TurnShares", spec := "turnShares", unfollowed := true, recurses := true, named := ["math/bits.divideError", "math/bits.overflowError"], apart := false }
def TurnSharesSaid : Prop := turnSharesRow.holds Try.pinned (OpenSpec.ofChange turnSharesSpec)

/-- ITS FALSE NEIGHBOUR: 'it returns false'. Refute it at one input. -/
def turnSharesWrong : ChangeSpec := { name := "turnShares", fn := fun _ => fun
  | [d1, d2] => { results := [.lit (.bool false)], args := [d1, d2] }
  | _ => none }
def TurnSharesWrongFalsely : Prop := turnSharesRow.holds Try.pinned (OpenSpec.ofChange turnSharesWrong)

/-- 'dolelaw21.TurnDue': WHATEVER THE INPUT: true; the input reads as it did. -/
def turnDueSpec : ChangeSpec := { name := "turnDue", fn := fun _ => fun
  | [d] => { results := [.lit (.bool true)], args := [d] }
  | _ => none }
def turnDueRow : OpenClaim := { program := "ytkemhcokkaanfaa", sum := "4d7753d9cb74c8d87bb1efb00ddd992e18315eac8d3ad44a59edb62c5cd32c0a", func := "dole/dolelaw21.TurnDue", spec := "turnDue", unfollowed := true, recurses := true, named := ["math/bits.divideError", "math/bits.overflowError"], apart := false }
def TurnDueSaid : Prop := turnDueRow.holds Try.pinned (OpenSpec.ofChange turnDueSpec)

/-- ITS FALSE NEIGHBOUR: 'it returns false'. Refute it at one input. -/
def turnDueWrong : ChangeSpec := { name := "turnDue", fn := fun _ => fun
  | [d] => { results := [.lit (.bool false)], args := [d] }
  | _ => none }
def TurnDueWrongFalsely : Prop := turnDueRow.holds Try.pinned (OpenSpec.ofChange turnDueWrong)

/-- 'dolelaw08.RunqDrops': WHATEVER THE INPUT: true; the input reads as it did. -/
def runqDropsSpec : ChangeSpec := { name := "runqDrops", fn := fun _ => fun
  | [d1, d2] => { results := [.lit (.bool true)], args := [d1, d2] }
  | _ => none }
def runqDropsRow : OpenClaim := { program := "ytkemhcokkaanfaa", sum := "4d7753d9cb74c8d87bb1efb00ddd992e18315eac8d3ad44a59edb62c5cd32c0a", func := "dole/dolelaw08.RunqDrops", spec := "runqDrops", unfollowed := true, recurses := true, apart := false }
def RunqDropsSaid : Prop := runqDropsRow.holds Try.pinned (OpenSpec.ofChange runqDropsSpec)

/-- ITS FALSE NEIGHBOUR: 'it returns false'. Refute it at one input. -/
def runqDropsWrong : ChangeSpec := { name := "runqDrops", fn := fun _ => fun
  | [d1, d2] => { results := [.lit (.bool false)], args := [d1, d2] }
  | _ => none }
def RunqDropsWrongFalsely : Prop := runqDropsRow.holds Try.pinned (OpenSpec.ofChange runqDropsWrong)

/-- 'dolelaw18.LedgerPaths': WHATEVER THE INPUT: true; the input reads as it did. -/
def ledgerPathsSpec : ChangeSpec := { name := "ledgerPaths", fn := fun _ => fun
  | [d1, d2] => { results := [.lit (.bool true)], args := [d1, d2] }
  | _ => none }
def ledgerPathsRow : OpenClaim := { program := "ytkemhcokkaanfaa", sum := "4d7753d9cb74c8d87bb1efb00ddd992e18315eac8d3ad44a59edb62c5cd32c0a", func := "dole/dolelaw18.LedgerPaths", spec := "ledgerPaths", unfollowed := true, recurses := true, apart := false }
def LedgerPathsSaid : Prop := ledgerPathsRow.holds Try.pinned (OpenSpec.ofChange ledgerPathsSpec)

/-- ITS FALSE NEIGHBOUR: 'it returns false'. Refute it at one input. -/
def ledgerPathsWrong : ChangeSpec := { name := "ledgerPaths", fn := fun _ => fun
  | [d1, d2] => { results := [.lit (.bool false)], args := [d1, d2] }
  | _ => none }
def LedgerPathsWrongFalsely : Prop := ledgerPathsRow.holds Try.pinned (OpenSpec.ofChange ledgerPathsWrong)

/-- 'dolelaw08.RunqAlone': WHATEVER THE INPUT: true; the input reads as it did. -/
def runqAloneSpec : ChangeSpec := { name := "runqAlone", fn := fun _ => fun
  | [d1, d2, d3] => { results := [.lit (.bool true)], args := [d1, d2, d3] }
  | _ => none }
def runqAloneRow : OpenClaim := { program := "ytkemhcokkaanfaa", sum := "4d7753d9cb74c8d87bb1efb00ddd992e18315eac8d3ad44a59edb62c5cd32c0a", func := "dole/dolelaw08.RunqAlone", spec := "runqAlone", unfollowed := true, recurses := true, named := ["math/bits.divideError", "math/bits.overflowError"], apart := false }
def RunqAloneSaid : Prop := runqAloneRow.holds Try.pinned (OpenSpec.ofChange runqAloneSpec)

/-- ITS FALSE NEIGHBOUR: 'it returns false'. Refute it at one input. -/
def runqAloneWrong : ChangeSpec := { name := "runqAlone", fn := fun _ => fun
  | [d1, d2, d3] => { results := [.lit (.bool false)], args := [d1, d2, d3] }
  | _ => none }
def RunqAloneWrongFalsely : Prop := runqAloneRow.holds Try.pinned (OpenSpec.ofChange runqAloneWrong)

/-- 'dolelaw18.LedgerFails': WHATEVER THE INPUT: true; the input reads as it did. -/
def ledgerFailsSpec : ChangeSpec := { name := "ledgerFails", fn := fun _ => fun
  | [d1, d2] => { results := [.lit (.bool true)], args := [d1, d2] }
  | _ => none }
def ledgerFailsRow : OpenClaim := { program := "ytkemhcokkaanfaa", sum := "4d7753d9cb74c8d87bb1efb00ddd992e18315eac8d3ad44a59edb62c5cd32c0a", func := "dole/dolelaw18.LedgerFails", spec := "ledgerFails", inPlace := ["maps.clone"], unfollowed := true, recurses := true, apart := false }
def LedgerFailsSaid : Prop := ledgerFailsRow.holds Try.pinned (OpenSpec.ofChange ledgerFailsSpec)

/-- ITS FALSE NEIGHBOUR: 'it returns false'. Refute it at one input. -/
def ledgerFailsWrong : ChangeSpec := { name := "ledgerFails", fn := fun _ => fun
  | [d1, d2] => { results := [.lit (.bool false)], args := [d1, d2] }
  | _ => none }
def LedgerFailsWrongFalsely : Prop := ledgerFailsRow.holds Try.pinned (OpenSpec.ofChange ledgerFailsWrong)

/-- 'dolelaw18.LedgerPlays': WHATEVER THE INPUT: true; the input reads as it did. -/
def ledgerPlaysSpec : ChangeSpec := { name := "ledgerPlays", fn := fun _ => fun
  | [d1, d2] => { results := [.lit (.bool true)], args := [d1, d2] }
  | _ => none }
def ledgerPlaysRow : OpenClaim := { program := "ytkemhcokkaanfaa", sum := "4d7753d9cb74c8d87bb1efb00ddd992e18315eac8d3ad44a59edb62c5cd32c0a", func := "dole/dolelaw18.LedgerPlays", spec := "ledgerPlays", inPlace := ["maps.clone"], unfollowed := true, recurses := true, apart := false }
def LedgerPlaysSaid : Prop := ledgerPlaysRow.holds Try.pinned (OpenSpec.ofChange ledgerPlaysSpec)

/-- ITS FALSE NEIGHBOUR: 'it returns false'. Refute it at one input. -/
def ledgerPlaysWrong : ChangeSpec := { name := "ledgerPlays", fn := fun _ => fun
  | [d1, d2] => { results := [.lit (.bool false)], args := [d1, d2] }
  | _ => none }
def LedgerPlaysWrongFalsely : Prop := ledgerPlaysRow.holds Try.pinned (OpenSpec.ofChange ledgerPlaysWrong)

/-- 'dolelaw18.LedgerSums': WHATEVER THE INPUT: true; the input reads as it did. -/
def ledgerSumsSpec : ChangeSpec := { name := "ledgerSums", fn := fun _ => fun
  | [d1, d2] => { results := [.lit (.bool true)], args := [d1, d2] }
  | _ => none }
def ledgerSumsRow : OpenClaim := { program := "ytkemhcokkaanfaa", sum := "4d7753d9cb74c8d87bb1efb00ddd992e18315eac8d3ad44a59edb62c5cd32c0a", func := "dole/dolelaw18.LedgerSums", spec := "ledgerSums", inPlace := ["maps.clone"], unfollowed := true, recurses := true, apart := false }
def LedgerSumsSaid : Prop := ledgerSumsRow.holds Try.pinned (OpenSpec.ofChange ledgerSumsSpec)

/-- ITS FALSE NEIGHBOUR: 'it returns false'. Refute it at one input. -/
def ledgerSumsWrong : ChangeSpec := { name := "ledgerSums", fn := fun _ => fun
  | [d1, d2] => { results := [.lit (.bool false)], args := [d1, d2] }
  | _ => none }
def LedgerSumsWrongFalsely : Prop := ledgerSumsRow.holds Try.pinned (OpenSpec.ofChange ledgerSumsWrong)

/-- 'dolelaw18.LedgerForgets': WHATEVER THE INPUT: true; the input reads as it did. -/
def ledgerForgetsSpec : ChangeSpec := { name := "ledgerForgets", fn := fun _ => fun
  | [d1, d2, d3, d4] => { results := [.lit (.bool true)], args := [d1, d2, d3, d4] }
  | _ => none }
def ledgerForgetsRow : OpenClaim := { program := "ytkemhcokkaanfaa", sum := "4d7753d9cb74c8d87bb1efb00ddd992e18315eac8d3ad44a59edb62c5cd32c0a", func := "dole/dolelaw18.LedgerForgets", spec := "ledgerForgets", inPlace := ["maps.clone"], unfollowed := true, recurses := true, apart := false }
def LedgerForgetsSaid : Prop := ledgerForgetsRow.holds Try.pinned (OpenSpec.ofChange ledgerForgetsSpec)

/-- ITS FALSE NEIGHBOUR: 'it returns false'. Refute it at one input. -/
def ledgerForgetsWrong : ChangeSpec := { name := "ledgerForgets", fn := fun _ => fun
  | [d1, d2, d3, d4] => { results := [.lit (.bool false)], args := [d1, d2, d3, d4] }
  | _ => none }
def LedgerForgetsWrongFalsely : Prop := ledgerForgetsRow.holds Try.pinned (OpenSpec.ofChange ledgerForgetsWrong)

/-- 'dolelaw18.LedgerNobody': WHATEVER THE INPUT: true; the input reads as it did. -/
def ledgerNobodySpec : ChangeSpec := { name := "ledgerNobody", fn := fun _ => fun
  | [d1, d2, d3] => { results := [.lit (.bool true)], args := [d1, d2, d3] }
  | _ => none }
def ledgerNobodyRow : OpenClaim := { program := "ytkemhcokkaanfaa", sum := "4d7753d9cb74c8d87bb1efb00ddd992e18315eac8d3ad44a59edb62c5cd32c0a", func := "dole/dolelaw18.LedgerNobody", spec := "ledgerNobody", inPlace := ["maps.clone"], unfollowed := true, recurses := true, apart := false }
def LedgerNobodySaid : Prop := ledgerNobodyRow.holds Try.pinned (OpenSpec.ofChange ledgerNobodySpec)

/-- ITS FALSE NEIGHBOUR: 'it returns false'. Refute it at one input. -/
def ledgerNobodyWrong : ChangeSpec := { name := "ledgerNobody", fn := fun _ => fun
  | [d1, d2, d3] => { results := [.lit (.bool false)], args := [d1, d2, d3] }
  | _ => none }
def LedgerNobodyWrongFalsely : Prop := ledgerNobodyRow.holds Try.pinned (OpenSpec.ofChange ledgerNobodyWrong)

/-- 'dolelaw08.RunqPlays': WHATEVER THE INPUT: true; the input reads as it did. -/
def runqPlaysSpec : ChangeSpec := { name := "runqPlays", fn := fun _ => fun
  | [d] => { results := [.lit (.bool true)], args := [d] }
  | _ => none }
def runqPlaysRow : OpenClaim := { program := "ytkemhcokkaanfaa", sum := "4d7753d9cb74c8d87bb1efb00ddd992e18315eac8d3ad44a59edb62c5cd32c0a", func := "dole/dolelaw08.RunqPlays", spec := "runqPlays", unfollowed := true, recurses := true, named := ["math/bits.divideError", "math/bits.overflowError"], apart := false }
def RunqPlaysSaid : Prop := runqPlaysRow.holds Try.pinned (OpenSpec.ofChange runqPlaysSpec)

/-- ITS FALSE NEIGHBOUR: 'it returns false'. Refute it at one input. -/
def runqPlaysWrong : ChangeSpec := { name := "runqPlays", fn := fun _ => fun
  | [d] => { results := [.lit (.bool false)], args := [d] }
  | _ => none }
def RunqPlaysWrongFalsely : Prop := runqPlaysRow.holds Try.pinned (OpenSpec.ofChange runqPlaysWrong)

/-- 'dolelaw08.RunqNobody': WHATEVER THE INPUT: true; the input reads as it did. -/
def runqNobodySpec : ChangeSpec := { name := "runqNobody", fn := fun _ => fun
  | [d1, d2] => { results := [.lit (.bool true)], args := [d1, d2] }
  | _ => none }
def runqNobodyRow : OpenClaim := { program := "ytkemhcokkaanfaa", sum := "4d7753d9cb74c8d87bb1efb00ddd992e18315eac8d3ad44a59edb62c5cd32c0a", func := "dole/dolelaw08.RunqNobody", spec := "runqNobody", unfollowed := true, recurses := true, named := ["math/bits.divideError", "math/bits.overflowError"], apart := false }
def RunqNobodySaid : Prop := runqNobodyRow.holds Try.pinned (OpenSpec.ofChange runqNobodySpec)

/-- ITS FALSE NEIGHBOUR: 'it returns false'. Refute it at one input. -/
def runqNobodyWrong : ChangeSpec := { name := "runqNobody", fn := fun _ => fun
  | [d1, d2] => { results := [.lit (.bool false)], args := [d1, d2] }
  | _ => none }
def RunqNobodyWrongFalsely : Prop := runqNobodyRow.holds Try.pinned (OpenSpec.ofChange runqNobodyWrong)

/-- 'dolelaw08.RunqFair': WHATEVER THE INPUT: true; the input reads as it did. -/
def runqFairSpec : ChangeSpec := { name := "runqFair", fn := fun _ => fun
  | [d1, d2, d3] => { results := [.lit (.bool true)], args := [d1, d2, d3] }
  | _ => none }
def runqFairRow : OpenClaim := { program := "ytkemhcokkaanfaa", sum := "4d7753d9cb74c8d87bb1efb00ddd992e18315eac8d3ad44a59edb62c5cd32c0a", func := "dole/dolelaw08.RunqFair", spec := "runqFair", unfollowed := true, recurses := true, named := ["math/bits.divideError", "math/bits.overflowError"], apart := false }
def RunqFairSaid : Prop := runqFairRow.holds Try.pinned (OpenSpec.ofChange runqFairSpec)

/-- ITS FALSE NEIGHBOUR: 'it returns false'. Refute it at one input. -/
def runqFairWrong : ChangeSpec := { name := "runqFair", fn := fun _ => fun
  | [d1, d2, d3] => { results := [.lit (.bool false)], args := [d1, d2, d3] }
  | _ => none }
def RunqFairWrongFalsely : Prop := runqFairRow.holds Try.pinned (OpenSpec.ofChange runqFairWrong)

/-- 'dolelaw08.RunqComes': WHATEVER THE INPUT: true; the input reads as it did. -/
def runqComesSpec : ChangeSpec := { name := "runqComes", fn := fun _ => fun
  | [d1, d2, d3] => { results := [.lit (.bool true)], args := [d1, d2, d3] }
  | _ => none }
def runqComesRow : OpenClaim := { program := "ytkemhcokkaanfaa", sum := "4d7753d9cb74c8d87bb1efb00ddd992e18315eac8d3ad44a59edb62c5cd32c0a", func := "dole/dolelaw08.RunqComes", spec := "runqComes", unfollowed := true, recurses := true, named := ["math/bits.divideError", "math/bits.overflowError"], apart := false }
def RunqComesSaid : Prop := runqComesRow.holds Try.pinned (OpenSpec.ofChange runqComesSpec)

/-- ITS FALSE NEIGHBOUR: 'it returns false'. Refute it at one input. -/
def runqComesWrong : ChangeSpec := { name := "runqComes", fn := fun _ => fun
  | [d1, d2, d3] => { results := [.lit (.bool false)], args := [d1, d2, d3] }
  | _ => none }
def RunqComesWrongFalsely : Prop := runqComesRow.holds Try.pinned (OpenSpec.ofChange runqComesWrong)

/-- 'dolelaw08.RunqNear': WHATEVER THE INPUT: true; the input reads as it did. -/
def runqNearSpec : ChangeSpec := { name := "runqNear", fn := fun _ => fun
  | [d1, d2] => { results := [.lit (.bool true)], args := [d1, d2] }
  | _ => none }
def runqNearRow : OpenClaim := { program := "ytkemhcokkaanfaa", sum := "4d7753d9cb74c8d87bb1efb00ddd992e18315eac8d3ad44a59edb62c5cd32c0a", func := "dole/dolelaw08.RunqNear", spec := "runqNear", unfollowed := true, recurses := true, named := ["math/bits.divideError", "math/bits.overflowError"], apart := false }
def RunqNearSaid : Prop := runqNearRow.holds Try.pinned (OpenSpec.ofChange runqNearSpec)

/-- ITS FALSE NEIGHBOUR: 'it returns false'. Refute it at one input. -/
def runqNearWrong : ChangeSpec := { name := "runqNear", fn := fun _ => fun
  | [d1, d2] => { results := [.lit (.bool false)], args := [d1, d2] }
  | _ => none }
def RunqNearWrongFalsely : Prop := runqNearRow.holds Try.pinned (OpenSpec.ofChange runqNearWrong)

/- THE SECOND FORM. 'bulk': how many values and letters a reading holds, each counted each time it is reached (what is shared counts as often as it is met; a slice's spare places count too). A statement '..UptoSaid' is the law's where the arguments, and the package variables that the reading takes, are together of bulk at most 1048576: NARROWER than '..Said'. Prove '..Said' where nothing that the law and all that it calls make is longer than what came in: it says more and counts as full. Else prove '..UptoSaid'. A law counts once. -/
mutual
def uptoBulk {H : Type} : DataW H → Nat
  | .lit (.string bytes) => bytes.length + 1
  | .lit _ => 1
  | .nil => 1
  | .ptr d => uptoBulk d + 1
  | .slice elems spare => uptoBulkAll elems + uptoBulkAll spare + 1
  | .agg parts => uptoBulkAll parts + 1
  | .iface _ d => uptoBulk d + 1
  | .map entries => uptoBulkEntries entries + 1
  | .held _ => 1
def uptoBulkAll {H : Type} : List (DataW H) → Nat
  | [] => 0
  | d :: r => uptoBulk d + uptoBulkAll r
def uptoBulkEntries {H : Type} : List (Lit × DataW H) → Nat
  | [] => 0
  | x :: r => uptoBulkEntry x + uptoBulkEntries r
def uptoBulkEntry {H : Type} : Lit × DataW H → Nat
  | (.string bytes, d) => bytes.length + uptoBulk d + 1
  | (_, d) => uptoBulk d + 1
 end
def uptoSmall : (H : Type) → List (DataW H) → Bool := fun _ ds => decide (uptoBulkAll ds ≤ 1048576)
def OpenSpec.upto (s : _root_.Go.ChangeSpec) : _root_.Go.OpenSpec := { _root_.Go.OpenSpec.ofChange s with cond := some uptoSmall }

/-- 'dolelaw11.ShareGrows', WHERE WHAT IT READS IS OF BULK AT MOST 1048576: true; the input reads as it did. -/
def shareGrowsUptoRow : OpenClaim := { program := "ytkemhcokkaanfaa", sum := "4d7753d9cb74c8d87bb1efb00ddd992e18315eac8d3ad44a59edb62c5cd32c0a", func := "dole/dolelaw11.ShareGrows", spec := "shareGrows", inPlace := ["math/bits.Add64"], unfollowed := true, recurses := true, named := ["math/bits.divideError", "math/bits.overflowError"], apart := false, narrowed := true }
def ShareGrowsUptoSaid : Prop := shareGrowsUptoRow.holds Try.pinned (OpenSpec.upto shareGrowsSpec)

/-- 'dolelaw11.ShareSums', WHERE WHAT IT READS IS OF BULK AT MOST 1048576: true; the input reads as it did. -/
def shareSumsUptoRow : OpenClaim := { program := "ytkemhcokkaanfaa", sum := "4d7753d9cb74c8d87bb1efb00ddd992e18315eac8d3ad44a59edb62c5cd32c0a", func := "dole/dolelaw11.ShareSums", spec := "shareSums", inPlace := ["math/bits.Add64"], unfollowed := true, recurses := true, named := ["math/bits.divideError", "math/bits.overflowError"], apart := false, narrowed := true }
def ShareSumsUptoSaid : Prop := shareSumsUptoRow.holds Try.pinned (OpenSpec.upto shareSumsSpec)

/-- 'dolelaw11.ShareScales', WHERE WHAT IT READS IS OF BULK AT MOST 1048576: true; the input reads as it did. -/
def shareScalesUptoRow : OpenClaim := { program := "ytkemhcokkaanfaa", sum := "4d7753d9cb74c8d87bb1efb00ddd992e18315eac8d3ad44a59edb62c5cd32c0a", func := "dole/dolelaw11.ShareScales", spec := "shareScales", inPlace := ["math/bits.Add64"], unfollowed := true, recurses := true, named := ["math/bits.divideError", "math/bits.overflowError"], apart := false, narrowed := true }
def ShareScalesUptoSaid : Prop := shareScalesUptoRow.holds Try.pinned (OpenSpec.upto shareScalesSpec)

/-- 'dolelaw21.TurnShares', WHERE WHAT IT READS IS OF BULK AT MOST 1048576: true; the input reads as it did. -/
def turnSharesUptoRow : OpenClaim := { program := "ytkemhcokkaanfaa", sum := "4d7753d9cb74c8d87bb1efb00ddd992e18315eac8d3ad44a59edb62c5cd32c0a", func := "dole/dolelaw21.TurnShares", spec := "turnShares", unfollowed := true, recurses := true, named := ["math/bits.divideError", "math/bits.overflowError"], apart := false, narrowed := true }
def TurnSharesUptoSaid : Prop := turnSharesUptoRow.holds Try.pinned (OpenSpec.upto turnSharesSpec)

/-- 'dolelaw21.TurnDue', WHERE WHAT IT READS IS OF BULK AT MOST 1048576: true; the input reads as it did. -/
def turnDueUptoRow : OpenClaim := { program := "ytkemhcokkaanfaa", sum := "4d7753d9cb74c8d87bb1efb00ddd992e18315eac8d3ad44a59edb62c5cd32c0a", func := "dole/dolelaw21.TurnDue", spec := "turnDue", unfollowed := true, recurses := true, named := ["math/bits.divideError", "math/bits.overflowError"], apart := false, narrowed := true }
def TurnDueUptoSaid : Prop := turnDueUptoRow.holds Try.pinned (OpenSpec.upto turnDueSpec)

/-- 'dolelaw08.RunqDrops', WHERE WHAT IT READS IS OF BULK AT MOST 1048576: true; the input reads as it did. -/
def runqDropsUptoRow : OpenClaim := { program := "ytkemhcokkaanfaa", sum := "4d7753d9cb74c8d87bb1efb00ddd992e18315eac8d3ad44a59edb62c5cd32c0a", func := "dole/dolelaw08.RunqDrops", spec := "runqDrops", unfollowed := true, recurses := true, apart := false, narrowed := true }
def RunqDropsUptoSaid : Prop := runqDropsUptoRow.holds Try.pinned (OpenSpec.upto runqDropsSpec)

/-- 'dolelaw18.LedgerPaths', WHERE WHAT IT READS IS OF BULK AT MOST 1048576: true; the input reads as it did. -/
def ledgerPathsUptoRow : OpenClaim := { program := "ytkemhcokkaanfaa", sum := "4d7753d9cb74c8d87bb1efb00ddd992e18315eac8d3ad44a59edb62c5cd32c0a", func := "dole/dolelaw18.LedgerPaths", spec := "ledgerPaths", unfollowed := true, recurses := true, apart := false, narrowed := true }
def LedgerPathsUptoSaid : Prop := ledgerPathsUptoRow.holds Try.pinned (OpenSpec.upto ledgerPathsSpec)

/-- 'dolelaw08.RunqAlone', WHERE WHAT IT READS IS OF BULK AT MOST 1048576: true; the input reads as it did. -/
def runqAloneUptoRow : OpenClaim := { program := "ytkemhcokkaanfaa", sum := "4d7753d9cb74c8d87bb1efb00ddd992e18315eac8d3ad44a59edb62c5cd32c0a", func := "dole/dolelaw08.RunqAlone", spec := "runqAlone", unfollowed := true, recurses := true, named := ["math/bits.divideError", "math/bits.overflowError"], apart := false, narrowed := true }
def RunqAloneUptoSaid : Prop := runqAloneUptoRow.holds Try.pinned (OpenSpec.upto runqAloneSpec)

/-- 'dolelaw18.LedgerFails', WHERE WHAT IT READS IS OF BULK AT MOST 1048576: true; the input reads as it did. -/
def ledgerFailsUptoRow : OpenClaim := { program := "ytkemhcokkaanfaa", sum := "4d7753d9cb74c8d87bb1efb00ddd992e18315eac8d3ad44a59edb62c5cd32c0a", func := "dole/dolelaw18.LedgerFails", spec := "ledgerFails", inPlace := ["maps.clone"], unfollowed := true, recurses := true, apart := false, narrowed := true }
def LedgerFailsUptoSaid : Prop := ledgerFailsUptoRow.holds Try.pinned (OpenSpec.upto ledgerFailsSpec)

/-- 'dolelaw18.LedgerPlays', WHERE WHAT IT READS IS OF BULK AT MOST 1048576: true; the input reads as it did. -/
def ledgerPlaysUptoRow : OpenClaim := { program := "ytkemhcokkaanfaa", sum := "4d7753d9cb74c8d87bb1efb00ddd992e18315eac8d3ad44a59edb62c5cd32c0a", func := "dole/dolelaw18.LedgerPlays", spec := "ledgerPlays", inPlace := ["maps.clone"], unfollowed := true, recurses := true, apart := false, narrowed := true }
def LedgerPlaysUptoSaid : Prop := ledgerPlaysUptoRow.holds Try.pinned (OpenSpec.upto ledgerPlaysSpec)

/-- 'dolelaw18.LedgerSums', WHERE WHAT IT READS IS OF BULK AT MOST 1048576: true; the input reads as it did. -/
def ledgerSumsUptoRow : OpenClaim := { program := "ytkemhcokkaanfaa", sum := "4d7753d9cb74c8d87bb1efb00ddd992e18315eac8d3ad44a59edb62c5cd32c0a", func := "dole/dolelaw18.LedgerSums", spec := "ledgerSums", inPlace := ["maps.clone"], unfollowed := true, recurses := true, apart := false, narrowed := true }
def LedgerSumsUptoSaid : Prop := ledgerSumsUptoRow.holds Try.pinned (OpenSpec.upto ledgerSumsSpec)

/-- 'dolelaw18.LedgerForgets', WHERE WHAT IT READS IS OF BULK AT MOST 1048576: true; the input reads as it did. -/
def ledgerForgetsUptoRow : OpenClaim := { program := "ytkemhcokkaanfaa", sum := "4d7753d9cb74c8d87bb1efb00ddd992e18315eac8d3ad44a59edb62c5cd32c0a", func := "dole/dolelaw18.LedgerForgets", spec := "ledgerForgets", inPlace := ["maps.clone"], unfollowed := true, recurses := true, apart := false, narrowed := true }
def LedgerForgetsUptoSaid : Prop := ledgerForgetsUptoRow.holds Try.pinned (OpenSpec.upto ledgerForgetsSpec)

/-- 'dolelaw18.LedgerNobody', WHERE WHAT IT READS IS OF BULK AT MOST 1048576: true; the input reads as it did. -/
def ledgerNobodyUptoRow : OpenClaim := { program := "ytkemhcokkaanfaa", sum := "4d7753d9cb74c8d87bb1efb00ddd992e18315eac8d3ad44a59edb62c5cd32c0a", func := "dole/dolelaw18.LedgerNobody", spec := "ledgerNobody", inPlace := ["maps.clone"], unfollowed := true, recurses := true, apart := false, narrowed := true }
def LedgerNobodyUptoSaid : Prop := ledgerNobodyUptoRow.holds Try.pinned (OpenSpec.upto ledgerNobodySpec)

/-- 'dolelaw08.RunqPlays', WHERE WHAT IT READS IS OF BULK AT MOST 1048576: true; the input reads as it did. -/
def runqPlaysUptoRow : OpenClaim := { program := "ytkemhcokkaanfaa", sum := "4d7753d9cb74c8d87bb1efb00ddd992e18315eac8d3ad44a59edb62c5cd32c0a", func := "dole/dolelaw08.RunqPlays", spec := "runqPlays", unfollowed := true, recurses := true, named := ["math/bits.divideError", "math/bits.overflowError"], apart := false, narrowed := true }
def RunqPlaysUptoSaid : Prop := runqPlaysUptoRow.holds Try.pinned (OpenSpec.upto runqPlaysSpec)

/-- 'dolelaw08.RunqNobody', WHERE WHAT IT READS IS OF BULK AT MOST 1048576: true; the input reads as it did. -/
def runqNobodyUptoRow : OpenClaim := { program := "ytkemhcokkaanfaa", sum := "4d7753d9cb74c8d87bb1efb00ddd992e18315eac8d3ad44a59edb62c5cd32c0a", func := "dole/dolelaw08.RunqNobody", spec := "runqNobody", unfollowed := true, recurses := true, named := ["math/bits.divideError", "math/bits.overflowError"], apart := false, narrowed := true }
def RunqNobodyUptoSaid : Prop := runqNobodyUptoRow.holds Try.pinned (OpenSpec.upto runqNobodySpec)

/-- 'dolelaw08.RunqFair', WHERE WHAT IT READS IS OF BULK AT MOST 1048576: true; the input reads as it did. -/
def runqFairUptoRow : OpenClaim := { program := "ytkemhcokkaanfaa", sum := "4d7753d9cb74c8d87bb1efb00ddd992e18315eac8d3ad44a59edb62c5cd32c0a", func := "dole/dolelaw08.RunqFair", spec := "runqFair", unfollowed := true, recurses := true, named := ["math/bits.divideError", "math/bits.overflowError"], apart := false, narrowed := true }
def RunqFairUptoSaid : Prop := runqFairUptoRow.holds Try.pinned (OpenSpec.upto runqFairSpec)

/-- 'dolelaw08.RunqComes', WHERE WHAT IT READS IS OF BULK AT MOST 1048576: true; the input reads as it did. -/
def runqComesUptoRow : OpenClaim := { program := "ytkemhcokkaanfaa", sum := "4d7753d9cb74c8d87bb1efb00ddd992e18315eac8d3ad44a59edb62c5cd32c0a", func := "dole/dolelaw08.RunqComes", spec := "runqComes", unfollowed := true, recurses := true, named := ["math/bits.divideError", "math/bits.overflowError"], apart := false, narrowed := true }
def RunqComesUptoSaid : Prop := runqComesUptoRow.holds Try.pinned (OpenSpec.upto runqComesSpec)

/-- 'dolelaw08.RunqNear', WHERE WHAT IT READS IS OF BULK AT MOST 1048576: true; the input reads as it did. -/
def runqNearUptoRow : OpenClaim := { program := "ytkemhcokkaanfaa", sum := "4d7753d9cb74c8d87bb1efb00ddd992e18315eac8d3ad44a59edb62c5cd32c0a", func := "dole/dolelaw08.RunqNear", spec := "runqNear", unfollowed := true, recurses := true, named := ["math/bits.divideError", "math/bits.overflowError"], apart := false, narrowed := true }
def RunqNearUptoSaid : Prop := runqNearUptoRow.holds Try.pinned (OpenSpec.upto runqNearSpec)

end Rows
end Go.Proofs.Ytkemhcokkaanfaa
