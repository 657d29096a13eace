/-
  No cell of these rows narrows 'for every input' (looked for: loops, veiled, ifaces, maps, wideKeys, modest, calm, conditions, laid).
  DERIVED. THE GIVEN ROWS OF THIS SEAT. 33 by the template 'for every input the law returns true; each argument reads behind the call as it read before'; 0 by the template 'total and deterministic' (their statements: YtnpjacfefocjnaaTotals.lean).
  GIVEN WITH THE SEED: the statements are not yours to turn. If you find one false, say at which input.
  Laid BY PROGRAM, IN A SANDBOX (cutbox-rows.mjs): the forced cells as the released guide's own fill.sh prints them over the translation 0ff7264d61aaca87… (all of the seat's roots in one cut). By AI agents, Wed Nov 11 2026. No macro, syntax, notation, axiom, sorry.
-/
import Derived.Test.YtnpjacfefocjnaaChecked
import GoSem.Claim
import GoSem.ClaimJoined
import GoSem.ClaimMapViews
import Derived.JoinedTies
import Derived.KernelRfl
namespace Go.Proofs.Ytnpjacfefocjnaa
/- THE CELL 'sum', in the pinned program and in every row, IS THE sha256 OF THE DUMP (.gsa) THAT YtnpjacfefocjnaaProg.lean LOADS. Nothing in Lean hashes anything: it is a label: what it is worth is what the hold of that sum in a sandbox is worth. -/
noncomputable def Try.pinned : Pinned := { name := "ytnpjacfefocjnaa", sum := "0ff7264d61aaca8799968c4d81a5f334a7af6486c6cc46922a72543ef4427dae", checked := Try.checked }
namespace Rows
def none {H : Type} : Left H := { results := [], args := [] }

/-- 'dolelaw02.WideDivs': WHATEVER THE INPUT: true; the input reads as it did. -/
def wideDivsSpec : ChangeSpec := { name := "wideDivs", fn := fun _ => fun
  | [d] => { results := [.lit (.bool true)], args := [d] }
  | _ => none }
def wideDivsRow : OpenClaim := { program := "ytnpjacfefocjnaa", sum := "0ff7264d61aaca8799968c4d81a5f334a7af6486c6cc46922a72543ef4427dae", func := "dole/dolelaw02.WideDivs", spec := "wideDivs", named := ["math/bits.divideError", "math/bits.overflowError"], apart := false }
def WideDivsSaid : Prop := wideDivsRow.holds Try.pinned (OpenSpec.ofChange wideDivsSpec)

/-- ITS FALSE NEIGHBOUR: 'it returns false'. Refute it at one input. -/
def wideDivsWrong : ChangeSpec := { name := "wideDivs", fn := fun _ => fun
  | [d] => { results := [.lit (.bool false)], args := [d] }
  | _ => none }
def WideDivsWrongFalsely : Prop := wideDivsRow.holds Try.pinned (OpenSpec.ofChange wideDivsWrong)

/-- 'dolelaw02.WideBack': WHATEVER THE INPUT: true; the input reads as it did. -/
def wideBackSpec : ChangeSpec := { name := "wideBack", fn := fun _ => fun
  | [d1, d2, d3] => { results := [.lit (.bool true)], args := [d1, d2, d3] }
  | _ => none }
def wideBackRow : OpenClaim := { program := "ytnpjacfefocjnaa", sum := "0ff7264d61aaca8799968c4d81a5f334a7af6486c6cc46922a72543ef4427dae", func := "dole/dolelaw02.WideBack", spec := "wideBack", named := ["math/bits.divideError", "math/bits.overflowError"], apart := false }
def WideBackSaid : Prop := wideBackRow.holds Try.pinned (OpenSpec.ofChange wideBackSpec)

/-- ITS FALSE NEIGHBOUR: 'it returns false'. Refute it at one input. -/
def wideBackWrong : ChangeSpec := { name := "wideBack", fn := fun _ => fun
  | [d1, d2, d3] => { results := [.lit (.bool false)], args := [d1, d2, d3] }
  | _ => none }
def WideBackWrongFalsely : Prop := wideBackRow.holds Try.pinned (OpenSpec.ofChange wideBackWrong)

/-- 'dolelaw02.WideUps': WHATEVER THE INPUT: true; the input reads as it did. -/
def wideUpsSpec : ChangeSpec := { name := "wideUps", fn := fun _ => fun
  | [d1, d2, d3] => { results := [.lit (.bool true)], args := [d1, d2, d3] }
  | _ => none }
def wideUpsRow : OpenClaim := { program := "ytnpjacfefocjnaa", sum := "0ff7264d61aaca8799968c4d81a5f334a7af6486c6cc46922a72543ef4427dae", func := "dole/dolelaw02.WideUps", spec := "wideUps", named := ["math/bits.divideError", "math/bits.overflowError"], apart := false }
def WideUpsSaid : Prop := wideUpsRow.holds Try.pinned (OpenSpec.ofChange wideUpsSpec)

/-- ITS FALSE NEIGHBOUR: 'it returns false'. Refute it at one input. -/
def wideUpsWrong : ChangeSpec := { name := "wideUps", fn := fun _ => fun
  | [d1, d2, d3] => { results := [.lit (.bool false)], args := [d1, d2, d3] }
  | _ => none }
def WideUpsWrongFalsely : Prop := wideUpsRow.holds Try.pinned (OpenSpec.ofChange wideUpsWrong)

/-- 'dolelaw02.WideOnes': WHATEVER THE INPUT: true; the input reads as it did. -/
def wideOnesSpec : ChangeSpec := { name := "wideOnes", fn := fun _ => fun
  | [d1, d2] => { results := [.lit (.bool true)], args := [d1, d2] }
  | _ => none }
def wideOnesRow : OpenClaim := { program := "ytnpjacfefocjnaa", sum := "0ff7264d61aaca8799968c4d81a5f334a7af6486c6cc46922a72543ef4427dae", func := "dole/dolelaw02.WideOnes", spec := "wideOnes", named := ["math/bits.divideError", "math/bits.overflowError"], apart := false }
def WideOnesSaid : Prop := wideOnesRow.holds Try.pinned (OpenSpec.ofChange wideOnesSpec)

/-- ITS FALSE NEIGHBOUR: 'it returns false'. Refute it at one input. -/
def wideOnesWrong : ChangeSpec := { name := "wideOnes", fn := fun _ => fun
  | [d1, d2] => { results := [.lit (.bool false)], args := [d1, d2] }
  | _ => none }
def WideOnesWrongFalsely : Prop := wideOnesRow.holds Try.pinned (OpenSpec.ofChange wideOnesWrong)

/-- 'dolelaw02.WideSmall': WHATEVER THE INPUT: true; the input reads as it did. -/
def wideSmallSpec : ChangeSpec := { name := "wideSmall", fn := fun _ => fun
  | [d1, d2, d3] => { results := [.lit (.bool true)], args := [d1, d2, d3] }
  | _ => none }
def wideSmallRow : OpenClaim := { program := "ytnpjacfefocjnaa", sum := "0ff7264d61aaca8799968c4d81a5f334a7af6486c6cc46922a72543ef4427dae", func := "dole/dolelaw02.WideSmall", spec := "wideSmall", named := ["math/bits.divideError", "math/bits.overflowError"], apart := false }
def WideSmallSaid : Prop := wideSmallRow.holds Try.pinned (OpenSpec.ofChange wideSmallSpec)

/-- ITS FALSE NEIGHBOUR: 'it returns false'. Refute it at one input. -/
def wideSmallWrong : ChangeSpec := { name := "wideSmall", fn := fun _ => fun
  | [d1, d2, d3] => { results := [.lit (.bool false)], args := [d1, d2, d3] }
  | _ => none }
def WideSmallWrongFalsely : Prop := wideSmallRow.holds Try.pinned (OpenSpec.ofChange wideSmallWrong)

/-- 'dolelaw02.WideOrder': WHATEVER THE INPUT: true; the input reads as it did. -/
def wideOrderSpec : ChangeSpec := { name := "wideOrder", fn := fun _ => fun
  | [d] => { results := [.lit (.bool true)], args := [d] }
  | _ => none }
def wideOrderRow : OpenClaim := { program := "ytnpjacfefocjnaa", sum := "0ff7264d61aaca8799968c4d81a5f334a7af6486c6cc46922a72543ef4427dae", func := "dole/dolelaw02.WideOrder", spec := "wideOrder", named := ["math/bits.divideError", "math/bits.overflowError"], apart := false }
def WideOrderSaid : Prop := wideOrderRow.holds Try.pinned (OpenSpec.ofChange wideOrderSpec)

/-- ITS FALSE NEIGHBOUR: 'it returns false'. Refute it at one input. -/
def wideOrderWrong : ChangeSpec := { name := "wideOrder", fn := fun _ => fun
  | [d] => { results := [.lit (.bool false)], args := [d] }
  | _ => none }
def WideOrderWrongFalsely : Prop := wideOrderRow.holds Try.pinned (OpenSpec.ofChange wideOrderWrong)

/-- 'dolelaw02.WideRises': WHATEVER THE INPUT: true; the input reads as it did. -/
def wideRisesSpec : ChangeSpec := { name := "wideRises", fn := fun _ => fun
  | [d] => { results := [.lit (.bool true)], args := [d] }
  | _ => none }
def wideRisesRow : OpenClaim := { program := "ytnpjacfefocjnaa", sum := "0ff7264d61aaca8799968c4d81a5f334a7af6486c6cc46922a72543ef4427dae", func := "dole/dolelaw02.WideRises", spec := "wideRises", named := ["math/bits.divideError", "math/bits.overflowError"], apart := false }
def WideRisesSaid : Prop := wideRisesRow.holds Try.pinned (OpenSpec.ofChange wideRisesSpec)

/-- ITS FALSE NEIGHBOUR: 'it returns false'. Refute it at one input. -/
def wideRisesWrong : ChangeSpec := { name := "wideRises", fn := fun _ => fun
  | [d] => { results := [.lit (.bool false)], args := [d] }
  | _ => none }
def WideRisesWrongFalsely : Prop := wideRisesRow.holds Try.pinned (OpenSpec.ofChange wideRisesWrong)

/-- 'dolelaw03.NiceNearest': WHATEVER THE INPUT: true; the input reads as it did. -/
def niceNearestSpec : ChangeSpec := { name := "niceNearest", fn := fun _ => fun
  | [d] => { results := [.lit (.bool true)], args := [d] }
  | _ => none }
def niceNearestRow : OpenClaim := { program := "ytnpjacfefocjnaa", sum := "0ff7264d61aaca8799968c4d81a5f334a7af6486c6cc46922a72543ef4427dae", func := "dole/dolelaw03.NiceNearest", spec := "niceNearest", unfollowed := true, recurses := true, named := ["math/bits.divideError", "math/bits.overflowError"], apart := false }
def NiceNearestSaid : Prop := niceNearestRow.holds Try.pinned (OpenSpec.ofChange niceNearestSpec)

/-- ITS FALSE NEIGHBOUR: 'it returns false'. Refute it at one input. -/
def niceNearestWrong : ChangeSpec := { name := "niceNearest", fn := fun _ => fun
  | [d] => { results := [.lit (.bool false)], args := [d] }
  | _ => none }
def NiceNearestWrongFalsely : Prop := niceNearestRow.holds Try.pinned (OpenSpec.ofChange niceNearestWrong)

/-- 'dolelaw03.NiceBack': WHATEVER THE INPUT: true; the input reads as it did. -/
def niceBackSpec : ChangeSpec := { name := "niceBack", fn := fun _ => fun
  | [d1, d2] => { results := [.lit (.bool true)], args := [d1, d2] }
  | _ => none }
def niceBackRow : OpenClaim := { program := "ytnpjacfefocjnaa", sum := "0ff7264d61aaca8799968c4d81a5f334a7af6486c6cc46922a72543ef4427dae", func := "dole/dolelaw03.NiceBack", spec := "niceBack", unfollowed := true, recurses := true, named := ["math/bits.divideError", "math/bits.overflowError"], apart := false }
def NiceBackSaid : Prop := niceBackRow.holds Try.pinned (OpenSpec.ofChange niceBackSpec)

/-- ITS FALSE NEIGHBOUR: 'it returns false'. Refute it at one input. -/
def niceBackWrong : ChangeSpec := { name := "niceBack", fn := fun _ => fun
  | [d1, d2] => { results := [.lit (.bool false)], args := [d1, d2] }
  | _ => none }
def NiceBackWrongFalsely : Prop := niceBackRow.holds Try.pinned (OpenSpec.ofChange niceBackWrong)

/-- 'dolelaw03.NiceAcross': WHATEVER THE INPUT: true; the input reads as it did. -/
def niceAcrossSpec : ChangeSpec := { name := "niceAcross", fn := fun _ => fun
  | [d] => { results := [.lit (.bool true)], args := [d] }
  | _ => none }
def niceAcrossRow : OpenClaim := { program := "ytnpjacfefocjnaa", sum := "0ff7264d61aaca8799968c4d81a5f334a7af6486c6cc46922a72543ef4427dae", func := "dole/dolelaw03.NiceAcross", spec := "niceAcross", unfollowed := true, recurses := true, named := ["math/bits.divideError", "math/bits.overflowError"], apart := false }
def NiceAcrossSaid : Prop := niceAcrossRow.holds Try.pinned (OpenSpec.ofChange niceAcrossSpec)

/-- ITS FALSE NEIGHBOUR: 'it returns false'. Refute it at one input. -/
def niceAcrossWrong : ChangeSpec := { name := "niceAcross", fn := fun _ => fun
  | [d] => { results := [.lit (.bool false)], args := [d] }
  | _ => none }
def NiceAcrossWrongFalsely : Prop := niceAcrossRow.holds Try.pinned (OpenSpec.ofChange niceAcrossWrong)

/-- 'dolelaw03.NiceHolds': WHATEVER THE INPUT: true; the input reads as it did. -/
def niceHoldsSpec : ChangeSpec := { name := "niceHolds", fn := fun _ => fun
  | [d1, d2] => { results := [.lit (.bool true)], args := [d1, d2] }
  | _ => none }
def niceHoldsRow : OpenClaim := { program := "ytnpjacfefocjnaa", sum := "0ff7264d61aaca8799968c4d81a5f334a7af6486c6cc46922a72543ef4427dae", func := "dole/dolelaw03.NiceHolds", spec := "niceHolds", unfollowed := true, recurses := true, named := ["math/bits.divideError", "math/bits.overflowError"], apart := false }
def NiceHoldsSaid : Prop := niceHoldsRow.holds Try.pinned (OpenSpec.ofChange niceHoldsSpec)

/-- ITS FALSE NEIGHBOUR: 'it returns false'. Refute it at one input. -/
def niceHoldsWrong : ChangeSpec := { name := "niceHolds", fn := fun _ => fun
  | [d1, d2] => { results := [.lit (.bool false)], args := [d1, d2] }
  | _ => none }
def NiceHoldsWrongFalsely : Prop := niceHoldsRow.holds Try.pinned (OpenSpec.ofChange niceHoldsWrong)

/-- 'dolelaw03.NiceNone': WHATEVER THE INPUT: true; the input reads as it did. -/
def niceNoneSpec : ChangeSpec := { name := "niceNone", fn := fun _ => fun
  | [d] => { results := [.lit (.bool true)], args := [d] }
  | _ => none }
def niceNoneRow : OpenClaim := { program := "ytnpjacfefocjnaa", sum := "0ff7264d61aaca8799968c4d81a5f334a7af6486c6cc46922a72543ef4427dae", func := "dole/dolelaw03.NiceNone", spec := "niceNone", unfollowed := true, recurses := true, named := ["math/bits.divideError", "math/bits.overflowError"], apart := false }
def NiceNoneSaid : Prop := niceNoneRow.holds Try.pinned (OpenSpec.ofChange niceNoneSpec)

/-- ITS FALSE NEIGHBOUR: 'it returns false'. Refute it at one input. -/
def niceNoneWrong : ChangeSpec := { name := "niceNone", fn := fun _ => fun
  | [d] => { results := [.lit (.bool false)], args := [d] }
  | _ => none }
def NiceNoneWrongFalsely : Prop := niceNoneRow.holds Try.pinned (OpenSpec.ofChange niceNoneWrong)

/-- 'dolelaw24.BoundNumbers': WHATEVER THE INPUT: true; the input reads as it did. -/
def boundNumbersSpec : ChangeSpec := { name := "boundNumbers", fn := fun _ => fun
  | [d1, d2, d3] => { results := [.lit (.bool true)], args := [d1, d2, d3] }
  | _ => none }
def boundNumbersRow : OpenClaim := { program := "ytnpjacfefocjnaa", sum := "0ff7264d61aaca8799968c4d81a5f334a7af6486c6cc46922a72543ef4427dae", func := "dole/dolelaw24.BoundNumbers", spec := "boundNumbers", named := ["math/bits.divideError", "math/bits.overflowError"], apart := false }
def BoundNumbersSaid : Prop := boundNumbersRow.holds Try.pinned (OpenSpec.ofChange boundNumbersSpec)

/-- ITS FALSE NEIGHBOUR: 'it returns false'. Refute it at one input. -/
def boundNumbersWrong : ChangeSpec := { name := "boundNumbers", fn := fun _ => fun
  | [d1, d2, d3] => { results := [.lit (.bool false)], args := [d1, d2, d3] }
  | _ => none }
def BoundNumbersWrongFalsely : Prop := boundNumbersRow.holds Try.pinned (OpenSpec.ofChange boundNumbersWrong)

/-- 'dolelaw24.BoundScales': WHATEVER THE INPUT: true; the input reads as it did. -/
def boundScalesSpec : ChangeSpec := { name := "boundScales", fn := fun _ => fun
  | [d1, d2, d3] => { results := [.lit (.bool true)], args := [d1, d2, d3] }
  | _ => none }
def boundScalesRow : OpenClaim := { program := "ytnpjacfefocjnaa", sum := "0ff7264d61aaca8799968c4d81a5f334a7af6486c6cc46922a72543ef4427dae", func := "dole/dolelaw24.BoundScales", spec := "boundScales", named := ["math/bits.divideError", "math/bits.overflowError"], apart := false }
def BoundScalesSaid : Prop := boundScalesRow.holds Try.pinned (OpenSpec.ofChange boundScalesSpec)

/-- ITS FALSE NEIGHBOUR: 'it returns false'. Refute it at one input. -/
def boundScalesWrong : ChangeSpec := { name := "boundScales", fn := fun _ => fun
  | [d1, d2, d3] => { results := [.lit (.bool false)], args := [d1, d2, d3] }
  | _ => none }
def BoundScalesWrongFalsely : Prop := boundScalesRow.holds Try.pinned (OpenSpec.ofChange boundScalesWrong)

/-- 'dolelaw24.BoundTops': WHATEVER THE INPUT: true; the input reads as it did. -/
def boundTopsSpec : ChangeSpec := { name := "boundTops", fn := fun _ => fun
  | [d1, d2, d3] => { results := [.lit (.bool true)], args := [d1, d2, d3] }
  | _ => none }
def boundTopsRow : OpenClaim := { program := "ytnpjacfefocjnaa", sum := "0ff7264d61aaca8799968c4d81a5f334a7af6486c6cc46922a72543ef4427dae", func := "dole/dolelaw24.BoundTops", spec := "boundTops", named := ["math/bits.divideError", "math/bits.overflowError"], apart := false }
def BoundTopsSaid : Prop := boundTopsRow.holds Try.pinned (OpenSpec.ofChange boundTopsSpec)

/-- ITS FALSE NEIGHBOUR: 'it returns false'. Refute it at one input. -/
def boundTopsWrong : ChangeSpec := { name := "boundTops", fn := fun _ => fun
  | [d1, d2, d3] => { results := [.lit (.bool false)], args := [d1, d2, d3] }
  | _ => none }
def BoundTopsWrongFalsely : Prop := boundTopsRow.holds Try.pinned (OpenSpec.ofChange boundTopsWrong)

/-- 'dolelaw11.ShareWeights': WHATEVER THE INPUT: true; the input reads as it did. -/
def shareWeightsSpec : ChangeSpec := { name := "shareWeights", fn := fun _ => fun
  | [d1, d2, d3] => { results := [.lit (.bool true)], args := [d1, d2, d3] }
  | _ => none }
def shareWeightsRow : OpenClaim := { program := "ytnpjacfefocjnaa", sum := "0ff7264d61aaca8799968c4d81a5f334a7af6486c6cc46922a72543ef4427dae", func := "dole/dolelaw11.ShareWeights", spec := "shareWeights", inPlace := ["math/bits.Add64"], unfollowed := true, recurses := true, named := ["math/bits.divideError", "math/bits.overflowError"], apart := false }
def ShareWeightsSaid : Prop := shareWeightsRow.holds Try.pinned (OpenSpec.ofChange shareWeightsSpec)

/-- ITS FALSE NEIGHBOUR: 'it returns false'. Refute it at one input. -/
def shareWeightsWrong : ChangeSpec := { name := "shareWeights", fn := fun _ => fun
  | [d1, d2, d3] => { results := [.lit (.bool false)], args := [d1, d2, d3] }
  | _ => none }
def ShareWeightsWrongFalsely : Prop := shareWeightsRow.holds Try.pinned (OpenSpec.ofChange shareWeightsWrong)

/-- 'dolelaw11.ShareSplits': WHATEVER THE INPUT: true; the input reads as it did. -/
def shareSplitsSpec : ChangeSpec := { name := "shareSplits", fn := fun _ => fun
  | [d1, d2] => { results := [.lit (.bool true)], args := [d1, d2] }
  | _ => none }
def shareSplitsRow : OpenClaim := { program := "ytnpjacfefocjnaa", sum := "0ff7264d61aaca8799968c4d81a5f334a7af6486c6cc46922a72543ef4427dae", func := "dole/dolelaw11.ShareSplits", spec := "shareSplits", inPlace := ["math/bits.Add64"], unfollowed := true, recurses := true, named := ["math/bits.divideError", "math/bits.overflowError"], apart := false }
def ShareSplitsSaid : Prop := shareSplitsRow.holds Try.pinned (OpenSpec.ofChange shareSplitsSpec)

/-- ITS FALSE NEIGHBOUR: 'it returns false'. Refute it at one input. -/
def shareSplitsWrong : ChangeSpec := { name := "shareSplits", fn := fun _ => fun
  | [d1, d2] => { results := [.lit (.bool false)], args := [d1, d2] }
  | _ => none }
def ShareSplitsWrongFalsely : Prop := shareSplitsRow.holds Try.pinned (OpenSpec.ofChange shareSplitsWrong)

/-- 'dolelaw11.ShareGrows': WHATEVER THE INPUT: true; the input reads as it did. -/
def shareGrowsSpec : ChangeSpec := { name := "shareGrows", fn := fun _ => fun
  | [d1, d2, d3] => { results := [.lit (.bool true)], args := [d1, d2, d3] }
  | _ => none }
def shareGrowsRow : OpenClaim := { program := "ytnpjacfefocjnaa", sum := "0ff7264d61aaca8799968c4d81a5f334a7af6486c6cc46922a72543ef4427dae", func := "dole/dolelaw11.ShareGrows", spec := "shareGrows", inPlace := ["math/bits.Add64"], unfollowed := true, recurses := true, named := ["math/bits.divideError", "math/bits.overflowError"], apart := false }
def ShareGrowsSaid : Prop := shareGrowsRow.holds Try.pinned (OpenSpec.ofChange shareGrowsSpec)

/-- ITS FALSE NEIGHBOUR: 'it returns false'. Refute it at one input. -/
def shareGrowsWrong : ChangeSpec := { name := "shareGrows", fn := fun _ => fun
  | [d1, d2, d3] => { results := [.lit (.bool false)], args := [d1, d2, d3] }
  | _ => none }
def ShareGrowsWrongFalsely : Prop := shareGrowsRow.holds Try.pinned (OpenSpec.ofChange shareGrowsWrong)

/-- 'dolelaw11.ShareHolds': WHATEVER THE INPUT: true; the input reads as it did. -/
def shareHoldsSpec : ChangeSpec := { name := "shareHolds", fn := fun _ => fun
  | [d1, d2] => { results := [.lit (.bool true)], args := [d1, d2] }
  | _ => none }
def shareHoldsRow : OpenClaim := { program := "ytnpjacfefocjnaa", sum := "0ff7264d61aaca8799968c4d81a5f334a7af6486c6cc46922a72543ef4427dae", func := "dole/dolelaw11.ShareHolds", spec := "shareHolds", inPlace := ["math/bits.Add64"], unfollowed := true, recurses := true, named := ["math/bits.divideError", "math/bits.overflowError"], apart := false }
def ShareHoldsSaid : Prop := shareHoldsRow.holds Try.pinned (OpenSpec.ofChange shareHoldsSpec)

/-- ITS FALSE NEIGHBOUR: 'it returns false'. Refute it at one input. -/
def shareHoldsWrong : ChangeSpec := { name := "shareHolds", fn := fun _ => fun
  | [d1, d2] => { results := [.lit (.bool false)], args := [d1, d2] }
  | _ => none }
def ShareHoldsWrongFalsely : Prop := shareHoldsRow.holds Try.pinned (OpenSpec.ofChange shareHoldsWrong)

/-- 'dolelaw11.ShareSums': WHATEVER THE INPUT: true; the input reads as it did. -/
def shareSumsSpec : ChangeSpec := { name := "shareSums", fn := fun _ => fun
  | [d1, d2] => { results := [.lit (.bool true)], args := [d1, d2] }
  | _ => none }
def shareSumsRow : OpenClaim := { program := "ytnpjacfefocjnaa", sum := "0ff7264d61aaca8799968c4d81a5f334a7af6486c6cc46922a72543ef4427dae", func := "dole/dolelaw11.ShareSums", spec := "shareSums", inPlace := ["math/bits.Add64"], unfollowed := true, recurses := true, named := ["math/bits.divideError", "math/bits.overflowError"], apart := false }
def ShareSumsSaid : Prop := shareSumsRow.holds Try.pinned (OpenSpec.ofChange shareSumsSpec)

/-- ITS FALSE NEIGHBOUR: 'it returns false'. Refute it at one input. -/
def shareSumsWrong : ChangeSpec := { name := "shareSums", fn := fun _ => fun
  | [d1, d2] => { results := [.lit (.bool false)], args := [d1, d2] }
  | _ => none }
def ShareSumsWrongFalsely : Prop := shareSumsRow.holds Try.pinned (OpenSpec.ofChange shareSumsWrong)

/-- 'dolelaw11.ShareScales': WHATEVER THE INPUT: true; the input reads as it did. -/
def shareScalesSpec : ChangeSpec := { name := "shareScales", fn := fun _ => fun
  | [d1, d2, d3] => { results := [.lit (.bool true)], args := [d1, d2, d3] }
  | _ => none }
def shareScalesRow : OpenClaim := { program := "ytnpjacfefocjnaa", sum := "0ff7264d61aaca8799968c4d81a5f334a7af6486c6cc46922a72543ef4427dae", func := "dole/dolelaw11.ShareScales", spec := "shareScales", inPlace := ["math/bits.Add64"], unfollowed := true, recurses := true, named := ["math/bits.divideError", "math/bits.overflowError"], apart := false }
def ShareScalesSaid : Prop := shareScalesRow.holds Try.pinned (OpenSpec.ofChange shareScalesSpec)

/-- ITS FALSE NEIGHBOUR: 'it returns false'. Refute it at one input. -/
def shareScalesWrong : ChangeSpec := { name := "shareScales", fn := fun _ => fun
  | [d1, d2, d3] => { results := [.lit (.bool false)], args := [d1, d2, d3] }
  | _ => none }
def ShareScalesWrongFalsely : Prop := shareScalesRow.holds Try.pinned (OpenSpec.ofChange shareScalesWrong)

/-- 'dolelaw24.BoundForms': WHATEVER THE INPUT: true; the input reads as it did. -/
def boundFormsSpec : ChangeSpec := { name := "boundForms", fn := fun _ => fun
  | [d1, d2, d3, d4, d5, d6] => { results := [.lit (.bool true)], args := [d1, d2, d3, d4, d5, d6] }
  | _ => none }
def boundFormsRow : OpenClaim := { program := "ytnpjacfefocjnaa", sum := "0ff7264d61aaca8799968c4d81a5f334a7af6486c6cc46922a72543ef4427dae", func := "dole/dolelaw24.BoundForms", spec := "boundForms", named := ["math/bits.divideError", "math/bits.overflowError"], apart := false }
def BoundFormsSaid : Prop := boundFormsRow.holds Try.pinned (OpenSpec.ofChange boundFormsSpec)

/-- ITS FALSE NEIGHBOUR: 'it returns false'. Refute it at one input. -/
def boundFormsWrong : ChangeSpec := { name := "boundForms", fn := fun _ => fun
  | [d1, d2, d3, d4, d5, d6] => { results := [.lit (.bool false)], args := [d1, d2, d3, d4, d5, d6] }
  | _ => none }
def BoundFormsWrongFalsely : Prop := boundFormsRow.holds Try.pinned (OpenSpec.ofChange boundFormsWrong)

/-- 'dolelaw24.BoundGrows': WHATEVER THE INPUT: true; the input reads as it did. -/
def boundGrowsSpec : ChangeSpec := { name := "boundGrows", fn := fun _ => fun
  | [d1, d2, d3, d4, d5, d6] => { results := [.lit (.bool true)], args := [d1, d2, d3, d4, d5, d6] }
  | _ => none }
def boundGrowsRow : OpenClaim := { program := "ytnpjacfefocjnaa", sum := "0ff7264d61aaca8799968c4d81a5f334a7af6486c6cc46922a72543ef4427dae", func := "dole/dolelaw24.BoundGrows", spec := "boundGrows", named := ["math/bits.divideError", "math/bits.overflowError"], apart := false }
def BoundGrowsSaid : Prop := boundGrowsRow.holds Try.pinned (OpenSpec.ofChange boundGrowsSpec)

/-- ITS FALSE NEIGHBOUR: 'it returns false'. Refute it at one input. -/
def boundGrowsWrong : ChangeSpec := { name := "boundGrows", fn := fun _ => fun
  | [d1, d2, d3, d4, d5, d6] => { results := [.lit (.bool false)], args := [d1, d2, d3, d4, d5, d6] }
  | _ => none }
def BoundGrowsWrongFalsely : Prop := boundGrowsRow.holds Try.pinned (OpenSpec.ofChange boundGrowsWrong)

/-- 'dolelaw03.NiceWeights': WHATEVER THE INPUT: true; the input reads as it did. -/
def niceWeightsSpec : ChangeSpec := { name := "niceWeights", fn := fun _ => fun
  | [d] => { results := [.lit (.bool true)], args := [d] }
  | _ => none }
def niceWeightsRow : OpenClaim := { program := "ytnpjacfefocjnaa", sum := "0ff7264d61aaca8799968c4d81a5f334a7af6486c6cc46922a72543ef4427dae", func := "dole/dolelaw03.NiceWeights", spec := "niceWeights", unfollowed := true, recurses := true, named := ["math/bits.divideError", "math/bits.overflowError"], apart := false }
def NiceWeightsSaid : Prop := niceWeightsRow.holds Try.pinned (OpenSpec.ofChange niceWeightsSpec)

/-- ITS FALSE NEIGHBOUR: 'it returns false'. Refute it at one input. -/
def niceWeightsWrong : ChangeSpec := { name := "niceWeights", fn := fun _ => fun
  | [d] => { results := [.lit (.bool false)], args := [d] }
  | _ => none }
def NiceWeightsWrongFalsely : Prop := niceWeightsRow.holds Try.pinned (OpenSpec.ofChange niceWeightsWrong)

/-- 'dolelaw03.NiceFalls': WHATEVER THE INPUT: true; the input reads as it did. -/
def niceFallsSpec : ChangeSpec := { name := "niceFalls", fn := fun _ => fun
  | [d] => { results := [.lit (.bool true)], args := [d] }
  | _ => none }
def niceFallsRow : OpenClaim := { program := "ytnpjacfefocjnaa", sum := "0ff7264d61aaca8799968c4d81a5f334a7af6486c6cc46922a72543ef4427dae", func := "dole/dolelaw03.NiceFalls", spec := "niceFalls", unfollowed := true, recurses := true, named := ["math/bits.divideError", "math/bits.overflowError"], apart := false }
def NiceFallsSaid : Prop := niceFallsRow.holds Try.pinned (OpenSpec.ofChange niceFallsSpec)

/-- ITS FALSE NEIGHBOUR: 'it returns false'. Refute it at one input. -/
def niceFallsWrong : ChangeSpec := { name := "niceFalls", fn := fun _ => fun
  | [d] => { results := [.lit (.bool false)], args := [d] }
  | _ => none }
def NiceFallsWrongFalsely : Prop := niceFallsRow.holds Try.pinned (OpenSpec.ofChange niceFallsWrong)

/-- 'dolelaw24.BoundWaits': WHATEVER THE INPUT: true; the input reads as it did. -/
def boundWaitsSpec : ChangeSpec := { name := "boundWaits", fn := fun _ => fun
  | [d1, d2, d3, d4, d5, d6, d7] => { results := [.lit (.bool true)], args := [d1, d2, d3, d4, d5, d6, d7] }
  | _ => none }
def boundWaitsRow : OpenClaim := { program := "ytnpjacfefocjnaa", sum := "0ff7264d61aaca8799968c4d81a5f334a7af6486c6cc46922a72543ef4427dae", func := "dole/dolelaw24.BoundWaits", spec := "boundWaits", recurses := true, named := ["math/bits.divideError", "math/bits.overflowError"], apart := false }
def BoundWaitsSaid : Prop := boundWaitsRow.holds Try.pinned (OpenSpec.ofChange boundWaitsSpec)

/-- ITS FALSE NEIGHBOUR: 'it returns false'. Refute it at one input. -/
def boundWaitsWrong : ChangeSpec := { name := "boundWaits", fn := fun _ => fun
  | [d1, d2, d3, d4, d5, d6, d7] => { results := [.lit (.bool false)], args := [d1, d2, d3, d4, d5, d6, d7] }
  | _ => none }
def BoundWaitsWrongFalsely : Prop := boundWaitsRow.holds Try.pinned (OpenSpec.ofChange boundWaitsWrong)

/-- 'dolelaw21.TurnShares': WHATEVER THE INPUT: true; the input reads as it did. -/
def turnSharesSpec : ChangeSpec := { name := "turnShares", fn := fun _ => fun
  | [d1, d2] => { results := [.lit (.bool true)], args := [d1, d2] }
  | _ => none }
def turnSharesRow : OpenClaim := { program := "ytnpjacfefocjnaa", sum := "0ff7264d61aaca8799968c4d81a5f334a7af6486c6cc46922a72543ef4427dae", func := "dole/dolelaw21.TurnShares", spec := "turnShares", unfollowed := true, recurses := true, named := ["math/bits.divideError", "math/bits.overflowError"], apart := false }
def TurnSharesSaid : Prop := turnSharesRow.holds Try.pinned (OpenSpec.ofChange turnSharesSpec)

/-- ITS FALSE NEIGHBOUR: 'it returns false'. Refute it at one input. -/
def turnSharesWrong : ChangeSpec := { name := "turnShares", fn := fun _ => fun
  | [d1, d2] => { results := [.lit (.bool false)], args := [d1, d2] }
  | _ => none }
def TurnSharesWrongFalsely : Prop := turnSharesRow.holds Try.pinned (OpenSpec.ofChange turnSharesWrong)

/-- 'dolelaw21.TurnDue': WHATEVER THE INPUT: true; the input reads as it did. -/
def turnDueSpec : ChangeSpec := { name := "turnDue", fn := fun _ => fun
  | [d] => { results := [.lit (.bool true)], args := [d] }
  | _ => none }
def turnDueRow : OpenClaim := { program := "ytnpjacfefocjnaa", sum := "0ff7264d61aaca8799968c4d81a5f334a7af6486c6cc46922a72543ef4427dae", func := "dole/dolelaw21.TurnDue", spec := "turnDue", unfollowed := true, recurses := true, named := ["math/bits.divideError", "math/bits.overflowError"], apart := false }
def TurnDueSaid : Prop := turnDueRow.holds Try.pinned (OpenSpec.ofChange turnDueSpec)

/-- ITS FALSE NEIGHBOUR: 'it returns false'. Refute it at one input. -/
def turnDueWrong : ChangeSpec := { name := "turnDue", fn := fun _ => fun
  | [d] => { results := [.lit (.bool false)], args := [d] }
  | _ => none }
def TurnDueWrongFalsely : Prop := turnDueRow.holds Try.pinned (OpenSpec.ofChange turnDueWrong)

/-- 'dolelaw21.TurnPlays': WHATEVER THE INPUT: true; the input reads as it did. -/
def turnPlaysSpec : ChangeSpec := { name := "turnPlays", fn := fun _ => fun
  | [d1, d2] => { results := [.lit (.bool true)], args := [d1, d2] }
  | _ => none }
def turnPlaysRow : OpenClaim := { program := "ytnpjacfefocjnaa", sum := "0ff7264d61aaca8799968c4d81a5f334a7af6486c6cc46922a72543ef4427dae", func := "dole/dolelaw21.TurnPlays", spec := "turnPlays", unfollowed := true, recurses := true, named := ["math/bits.divideError", "math/bits.overflowError"], apart := false }
def TurnPlaysSaid : Prop := turnPlaysRow.holds Try.pinned (OpenSpec.ofChange turnPlaysSpec)

/-- ITS FALSE NEIGHBOUR: 'it returns false'. Refute it at one input. -/
def turnPlaysWrong : ChangeSpec := { name := "turnPlays", fn := fun _ => fun
  | [d1, d2] => { results := [.lit (.bool false)], args := [d1, d2] }
  | _ => none }
def TurnPlaysWrongFalsely : Prop := turnPlaysRow.holds Try.pinned (OpenSpec.ofChange turnPlaysWrong)

/-- 'dolelaw21.TurnAll': WHATEVER THE INPUT: true; the input reads as it did. -/
def turnAllSpec : ChangeSpec := { name := "turnAll", fn := fun _ => fun
  | [d] => { results := [.lit (.bool true)], args := [d] }
  | _ => none }
def turnAllRow : OpenClaim := { program := "ytnpjacfefocjnaa", sum := "0ff7264d61aaca8799968c4d81a5f334a7af6486c6cc46922a72543ef4427dae", func := "dole/dolelaw21.TurnAll", spec := "turnAll", unfollowed := true, recurses := true, named := ["math/bits.divideError", "math/bits.overflowError"], apart := false }
def TurnAllSaid : Prop := turnAllRow.holds Try.pinned (OpenSpec.ofChange turnAllSpec)

/-- ITS FALSE NEIGHBOUR: 'it returns false'. Refute it at one input. -/
def turnAllWrong : ChangeSpec := { name := "turnAll", fn := fun _ => fun
  | [d] => { results := [.lit (.bool false)], args := [d] }
  | _ => none }
def TurnAllWrongFalsely : Prop := turnAllRow.holds Try.pinned (OpenSpec.ofChange turnAllWrong)

/-- 'dolelaw21.TurnNobody': WHATEVER THE INPUT: true; the input reads as it did. -/
def turnNobodySpec : ChangeSpec := { name := "turnNobody", fn := fun _ => fun
  | [d1, d2] => { results := [.lit (.bool true)], args := [d1, d2] }
  | _ => none }
def turnNobodyRow : OpenClaim := { program := "ytnpjacfefocjnaa", sum := "0ff7264d61aaca8799968c4d81a5f334a7af6486c6cc46922a72543ef4427dae", func := "dole/dolelaw21.TurnNobody", spec := "turnNobody", unfollowed := true, recurses := true, named := ["math/bits.divideError", "math/bits.overflowError"], apart := false }
def TurnNobodySaid : Prop := turnNobodyRow.holds Try.pinned (OpenSpec.ofChange turnNobodySpec)

/-- ITS FALSE NEIGHBOUR: 'it returns false'. Refute it at one input. -/
def turnNobodyWrong : ChangeSpec := { name := "turnNobody", fn := fun _ => fun
  | [d1, d2] => { results := [.lit (.bool false)], args := [d1, d2] }
  | _ => none }
def TurnNobodyWrongFalsely : Prop := turnNobodyRow.holds Try.pinned (OpenSpec.ofChange turnNobodyWrong)

/-- 'dolelaw21.TurnSlices': WHATEVER THE INPUT: true; the input reads as it did. -/
def turnSlicesSpec : ChangeSpec := { name := "turnSlices", fn := fun _ => fun
  | [d1, d2, d3] => { results := [.lit (.bool true)], args := [d1, d2, d3] }
  | _ => none }
def turnSlicesRow : OpenClaim := { program := "ytnpjacfefocjnaa", sum := "0ff7264d61aaca8799968c4d81a5f334a7af6486c6cc46922a72543ef4427dae", func := "dole/dolelaw21.TurnSlices", spec := "turnSlices", unfollowed := true, recurses := true, named := ["math/bits.divideError", "math/bits.overflowError"], apart := false }
def TurnSlicesSaid : Prop := turnSlicesRow.holds Try.pinned (OpenSpec.ofChange turnSlicesSpec)

/-- ITS FALSE NEIGHBOUR: 'it returns false'. Refute it at one input. -/
def turnSlicesWrong : ChangeSpec := { name := "turnSlices", fn := fun _ => fun
  | [d1, d2, d3] => { results := [.lit (.bool false)], args := [d1, d2, d3] }
  | _ => none }
def TurnSlicesWrongFalsely : Prop := turnSlicesRow.holds Try.pinned (OpenSpec.ofChange turnSlicesWrong)

/-- 'dolelaw21.TurnBetter': WHATEVER THE INPUT: true; the input reads as it did. -/
def turnBetterSpec : ChangeSpec := { name := "turnBetter", fn := fun _ => fun
  | [d1, d2, d3] => { results := [.lit (.bool true)], args := [d1, d2, d3] }
  | _ => none }
def turnBetterRow : OpenClaim := { program := "ytnpjacfefocjnaa", sum := "0ff7264d61aaca8799968c4d81a5f334a7af6486c6cc46922a72543ef4427dae", func := "dole/dolelaw21.TurnBetter", spec := "turnBetter", unfollowed := true, recurses := true, named := ["math/bits.divideError", "math/bits.overflowError"], apart := false }
def TurnBetterSaid : Prop := turnBetterRow.holds Try.pinned (OpenSpec.ofChange turnBetterSpec)

/-- ITS FALSE NEIGHBOUR: 'it returns false'. Refute it at one input. -/
def turnBetterWrong : ChangeSpec := { name := "turnBetter", fn := fun _ => fun
  | [d1, d2, d3] => { results := [.lit (.bool false)], args := [d1, d2, d3] }
  | _ => none }
def TurnBetterWrongFalsely : Prop := turnBetterRow.holds Try.pinned (OpenSpec.ofChange turnBetterWrong)

/- THE SECOND FORM. 'bulk': how many values and letters a reading holds, each counted each time it is reached (what is shared counts as often as it is met; a slice's spare places count too). A statement '..UptoSaid' is the law's where the arguments, and the package variables that the reading takes, are together of bulk at most 1048576: NARROWER than '..Said'. Prove '..Said' where nothing that the law and all that it calls make is longer than what came in: it says more and counts as full. Else prove '..UptoSaid'. A law counts once. -/
mutual
def uptoBulk {H : Type} : DataW H → Nat
  | .lit (.string bytes) => bytes.length + 1
  | .lit _ => 1
  | .nil => 1
  | .ptr d => uptoBulk d + 1
  | .slice elems spare => uptoBulkAll elems + uptoBulkAll spare + 1
  | .agg parts => uptoBulkAll parts + 1
  | .iface _ d => uptoBulk d + 1
  | .map entries => uptoBulkEntries entries + 1
  | .held _ => 1
def uptoBulkAll {H : Type} : List (DataW H) → Nat
  | [] => 0
  | d :: r => uptoBulk d + uptoBulkAll r
def uptoBulkEntries {H : Type} : List (Lit × DataW H) → Nat
  | [] => 0
  | x :: r => uptoBulkEntry x + uptoBulkEntries r
def uptoBulkEntry {H : Type} : Lit × DataW H → Nat
  | (.string bytes, d) => bytes.length + uptoBulk d + 1
  | (_, d) => uptoBulk d + 1
 end
def uptoSmall : (H : Type) → List (DataW H) → Bool := fun _ ds => decide (uptoBulkAll ds ≤ 1048576)
def OpenSpec.upto (s : _root_.Go.ChangeSpec) : _root_.Go.OpenSpec := { _root_.Go.OpenSpec.ofChange s with cond := some uptoSmall }

/-- 'dolelaw02.WideDivs', WHERE WHAT IT READS IS OF BULK AT MOST 1048576: true; the input reads as it did. -/
def wideDivsUptoRow : OpenClaim := { program := "ytnpjacfefocjnaa", sum := "0ff7264d61aaca8799968c4d81a5f334a7af6486c6cc46922a72543ef4427dae", func := "dole/dolelaw02.WideDivs", spec := "wideDivs", named := ["math/bits.divideError", "math/bits.overflowError"], apart := false, narrowed := true }
def WideDivsUptoSaid : Prop := wideDivsUptoRow.holds Try.pinned (OpenSpec.upto wideDivsSpec)

/-- 'dolelaw02.WideBack', WHERE WHAT IT READS IS OF BULK AT MOST 1048576: true; the input reads as it did. -/
def wideBackUptoRow : OpenClaim := { program := "ytnpjacfefocjnaa", sum := "0ff7264d61aaca8799968c4d81a5f334a7af6486c6cc46922a72543ef4427dae", func := "dole/dolelaw02.WideBack", spec := "wideBack", named := ["math/bits.divideError", "math/bits.overflowError"], apart := false, narrowed := true }
def WideBackUptoSaid : Prop := wideBackUptoRow.holds Try.pinned (OpenSpec.upto wideBackSpec)

/-- 'dolelaw02.WideUps', WHERE WHAT IT READS IS OF BULK AT MOST 1048576: true; the input reads as it did. -/
def wideUpsUptoRow : OpenClaim := { program := "ytnpjacfefocjnaa", sum := "0ff7264d61aaca8799968c4d81a5f334a7af6486c6cc46922a72543ef4427dae", func := "dole/dolelaw02.WideUps", spec := "wideUps", named := ["math/bits.divideError", "math/bits.overflowError"], apart := false, narrowed := true }
def WideUpsUptoSaid : Prop := wideUpsUptoRow.holds Try.pinned (OpenSpec.upto wideUpsSpec)

/-- 'dolelaw02.WideOnes', WHERE WHAT IT READS IS OF BULK AT MOST 1048576: true; the input reads as it did. -/
def wideOnesUptoRow : OpenClaim := { program := "ytnpjacfefocjnaa", sum := "0ff7264d61aaca8799968c4d81a5f334a7af6486c6cc46922a72543ef4427dae", func := "dole/dolelaw02.WideOnes", spec := "wideOnes", named := ["math/bits.divideError", "math/bits.overflowError"], apart := false, narrowed := true }
def WideOnesUptoSaid : Prop := wideOnesUptoRow.holds Try.pinned (OpenSpec.upto wideOnesSpec)

/-- 'dolelaw02.WideSmall', WHERE WHAT IT READS IS OF BULK AT MOST 1048576: true; the input reads as it did. -/
def wideSmallUptoRow : OpenClaim := { program := "ytnpjacfefocjnaa", sum := "0ff7264d61aaca8799968c4d81a5f334a7af6486c6cc46922a72543ef4427dae", func := "dole/dolelaw02.WideSmall", spec := "wideSmall", named := ["math/bits.divideError", "math/bits.overflowError"], apart := false, narrowed := true }
def WideSmallUptoSaid : Prop := wideSmallUptoRow.holds Try.pinned (OpenSpec.upto wideSmallSpec)

/-- 'dolelaw02.WideOrder', WHERE WHAT IT READS IS OF BULK AT MOST 1048576: true; the input reads as it did. -/
def wideOrderUptoRow : OpenClaim := { program := "ytnpjacfefocjnaa", sum := "0ff7264d61aaca8799968c4d81a5f334a7af6486c6cc46922a72543ef4427dae", func := "dole/dolelaw02.WideOrder", spec := "wideOrder", named := ["math/bits.divideError", "math/bits.overflowError"], apart := false, narrowed := true }
def WideOrderUptoSaid : Prop := wideOrderUptoRow.holds Try.pinned (OpenSpec.upto wideOrderSpec)

/-- 'dolelaw02.WideRises', WHERE WHAT IT READS IS OF BULK AT MOST 1048576: true; the input reads as it did. -/
def wideRisesUptoRow : OpenClaim := { program := "ytnpjacfefocjnaa", sum := "0ff7264d61aaca8799968c4d81a5f334a7af6486c6cc46922a72543ef4427dae", func := "dole/dolelaw02.WideRises", spec := "wideRises", named := ["math/bits.divideError", "math/bits.overflowError"], apart := false, narrowed := true }
def WideRisesUptoSaid : Prop := wideRisesUptoRow.holds Try.pinned (OpenSpec.upto wideRisesSpec)

/-- 'dolelaw03.NiceNearest', WHERE WHAT IT READS IS OF BULK AT MOST 1048576: true; the input reads as it did. -/
def niceNearestUptoRow : OpenClaim := { program := "ytnpjacfefocjnaa", sum := "0ff7264d61aaca8799968c4d81a5f334a7af6486c6cc46922a72543ef4427dae", func := "dole/dolelaw03.NiceNearest", spec := "niceNearest", unfollowed := true, recurses := true, named := ["math/bits.divideError", "math/bits.overflowError"], apart := false, narrowed := true }
def NiceNearestUptoSaid : Prop := niceNearestUptoRow.holds Try.pinned (OpenSpec.upto niceNearestSpec)

/-- 'dolelaw03.NiceBack', WHERE WHAT IT READS IS OF BULK AT MOST 1048576: true; the input reads as it did. -/
def niceBackUptoRow : OpenClaim := { program := "ytnpjacfefocjnaa", sum := "0ff7264d61aaca8799968c4d81a5f334a7af6486c6cc46922a72543ef4427dae", func := "dole/dolelaw03.NiceBack", spec := "niceBack", unfollowed := true, recurses := true, named := ["math/bits.divideError", "math/bits.overflowError"], apart := false, narrowed := true }
def NiceBackUptoSaid : Prop := niceBackUptoRow.holds Try.pinned (OpenSpec.upto niceBackSpec)

/-- 'dolelaw03.NiceAcross', WHERE WHAT IT READS IS OF BULK AT MOST 1048576: true; the input reads as it did. -/
def niceAcrossUptoRow : OpenClaim := { program := "ytnpjacfefocjnaa", sum := "0ff7264d61aaca8799968c4d81a5f334a7af6486c6cc46922a72543ef4427dae", func := "dole/dolelaw03.NiceAcross", spec := "niceAcross", unfollowed := true, recurses := true, named := ["math/bits.divideError", "math/bits.overflowError"], apart := false, narrowed := true }
def NiceAcrossUptoSaid : Prop := niceAcrossUptoRow.holds Try.pinned (OpenSpec.upto niceAcrossSpec)

/-- 'dolelaw03.NiceHolds', WHERE WHAT IT READS IS OF BULK AT MOST 1048576: true; the input reads as it did. -/
def niceHoldsUptoRow : OpenClaim := { program := "ytnpjacfefocjnaa", sum := "0ff7264d61aaca8799968c4d81a5f334a7af6486c6cc46922a72543ef4427dae", func := "dole/dolelaw03.NiceHolds", spec := "niceHolds", unfollowed := true, recurses := true, named := ["math/bits.divideError", "math/bits.overflowError"], apart := false, narrowed := true }
def NiceHoldsUptoSaid : Prop := niceHoldsUptoRow.holds Try.pinned (OpenSpec.upto niceHoldsSpec)

/-- 'dolelaw03.NiceNone', WHERE WHAT IT READS IS OF BULK AT MOST 1048576: true; the input reads as it did. -/
def niceNoneUptoRow : OpenClaim := { program := "ytnpjacfefocjnaa", sum := "0ff7264d61aaca8799968c4d81a5f334a7af6486c6cc46922a72543ef4427dae", func := "dole/dolelaw03.NiceNone", spec := "niceNone", unfollowed := true, recurses := true, named := ["math/bits.divideError", "math/bits.overflowError"], apart := false, narrowed := true }
def NiceNoneUptoSaid : Prop := niceNoneUptoRow.holds Try.pinned (OpenSpec.upto niceNoneSpec)

/-- 'dolelaw24.BoundNumbers', WHERE WHAT IT READS IS OF BULK AT MOST 1048576: true; the input reads as it did. -/
def boundNumbersUptoRow : OpenClaim := { program := "ytnpjacfefocjnaa", sum := "0ff7264d61aaca8799968c4d81a5f334a7af6486c6cc46922a72543ef4427dae", func := "dole/dolelaw24.BoundNumbers", spec := "boundNumbers", named := ["math/bits.divideError", "math/bits.overflowError"], apart := false, narrowed := true }
def BoundNumbersUptoSaid : Prop := boundNumbersUptoRow.holds Try.pinned (OpenSpec.upto boundNumbersSpec)

/-- 'dolelaw24.BoundScales', WHERE WHAT IT READS IS OF BULK AT MOST 1048576: true; the input reads as it did. -/
def boundScalesUptoRow : OpenClaim := { program := "ytnpjacfefocjnaa", sum := "0ff7264d61aaca8799968c4d81a5f334a7af6486c6cc46922a72543ef4427dae", func := "dole/dolelaw24.BoundScales", spec := "boundScales", named := ["math/bits.divideError", "math/bits.overflowError"], apart := false, narrowed := true }
def BoundScalesUptoSaid : Prop := boundScalesUptoRow.holds Try.pinned (OpenSpec.upto boundScalesSpec)

/-- 'dolelaw24.BoundTops', WHERE WHAT IT READS IS OF BULK AT MOST 1048576: true; the input reads as it did. -/
def boundTopsUptoRow : OpenClaim := { program := "ytnpjacfefocjnaa", sum := "0ff7264d61aaca8799968c4d81a5f334a7af6486c6cc46922a72543ef4427dae", func := "dole/dolelaw24.BoundTops", spec := "boundTops", named := ["math/bits.divideError", "math/bits.overflowError"], apart := false, narrowed := true }
def BoundTopsUptoSaid : Prop := boundTopsUptoRow.holds Try.pinned (OpenSpec.upto boundTopsSpec)

/-- 'dolelaw11.ShareWeights', WHERE WHAT IT READS IS OF BULK AT MOST 1048576: true; the input reads as it did. -/
def shareWeightsUptoRow : OpenClaim := { program := "ytnpjacfefocjnaa", sum := "0ff7264d61aaca8799968c4d81a5f334a7af6486c6cc46922a72543ef4427dae", func := "dole/dolelaw11.ShareWeights", spec := "shareWeights", inPlace := ["math/bits.Add64"], unfollowed := true, recurses := true, named := ["math/bits.divideError", "math/bits.overflowError"], apart := false, narrowed := true }
def ShareWeightsUptoSaid : Prop := shareWeightsUptoRow.holds Try.pinned (OpenSpec.upto shareWeightsSpec)

/-- 'dolelaw11.ShareSplits', WHERE WHAT IT READS IS OF BULK AT MOST 1048576: true; the input reads as it did. -/
def shareSplitsUptoRow : OpenClaim := { program := "ytnpjacfefocjnaa", sum := "0ff7264d61aaca8799968c4d81a5f334a7af6486c6cc46922a72543ef4427dae", func := "dole/dolelaw11.ShareSplits", spec := "shareSplits", inPlace := ["math/bits.Add64"], unfollowed := true, recurses := true, named := ["math/bits.divideError", "math/bits.overflowError"], apart := false, narrowed := true }
def ShareSplitsUptoSaid : Prop := shareSplitsUptoRow.holds Try.pinned (OpenSpec.upto shareSplitsSpec)

/-- 'dolelaw11.ShareGrows', WHERE WHAT IT READS IS OF BULK AT MOST 1048576: true; the input reads as it did. -/
def shareGrowsUptoRow : OpenClaim := { program := "ytnpjacfefocjnaa", sum := "0ff7264d61aaca8799968c4d81a5f334a7af6486c6cc46922a72543ef4427dae", func := "dole/dolelaw11.ShareGrows", spec := "shareGrows", inPlace := ["math/bits.Add64"], unfollowed := true, recurses := true, named := ["math/bits.divideError", "math/bits.overflowError"], apart := false, narrowed := true }
def ShareGrowsUptoSaid : Prop := shareGrowsUptoRow.holds Try.pinned (OpenSpec.upto shareGrowsSpec)

/-- 'dolelaw11.ShareHolds', WHERE WHAT IT READS IS OF BULK AT MOST 1048576: true; the input reads as it did. -/
def shareHoldsUptoRow : OpenClaim := { program := "ytnpjacfefocjnaa", sum := "0ff7264d61aaca8799968c4d81a5f334a7af6486c6cc46922a72543ef4427dae", func := "dole/dolelaw11.ShareHolds", spec := "shareHolds", inPlace := ["math/bits.Add64"], unfollowed := true, recurses := true, named := ["math/bits.divideError", "math/bits.overflowError"], apart := false, narrowed := true }
def ShareHoldsUptoSaid : Prop := shareHoldsUptoRow.holds Try.pinned (OpenSpec.upto shareHoldsSpec)

/-- 'dolelaw11.ShareSums', WHERE WHAT IT READS IS OF BULK AT MOST 1048576: true; the input reads as it did. -/
def shareSumsUptoRow : OpenClaim := { program := "ytnpjacfefocjnaa", sum := "0ff7264d61aaca8799968c4d81a5f334a7af6486c6cc46922a72543ef4427dae", func := "dole/dolelaw11.ShareSums", spec := "shareSums", inPlace := ["math/bits.Add64"], unfollowed := true, recurses := true, named := ["math/bits.divideError", "math/bits.overflowError"], apart := false, narrowed := true }
def ShareSumsUptoSaid : Prop := shareSumsUptoRow.holds Try.pinned (OpenSpec.upto shareSumsSpec)

/-- 'dolelaw11.ShareScales', WHERE WHAT IT READS IS OF BULK AT MOST 1048576: true; the input reads as it did. -/
def shareScalesUptoRow : OpenClaim := { program := "ytnpjacfefocjnaa", sum := "0ff7264d61aaca8799968c4d81a5f334a7af6486c6cc46922a72543ef4427dae", func := "dole/dolelaw11.ShareScales", spec := "shareScales", inPlace := ["math/bits.Add64"], unfollowed := true, recurses := true, named := ["math/bits.divideError", "math/bits.overflowError"], apart := false, narrowed := true }
def ShareScalesUptoSaid : Prop := shareScalesUptoRow.holds Try.pinned (OpenSpec.upto shareScalesSpec)

/-- 'dolelaw24.BoundForms', WHERE WHAT IT READS IS OF BULK AT MOST 1048576: true; the input reads as it did. -/
def boundFormsUptoRow : OpenClaim := { program := "ytnpjacfefocjnaa", sum := "0ff7264d61aaca8799968c4d81a5f334a7af6486c6cc46922a72543ef4427dae", func := "dole/dolelaw24.BoundForms", spec := "boundForms", named := ["math/bits.divideError", "math/bits.overflowError"], apart := false, narrowed := true }
def BoundFormsUptoSaid : Prop := boundFormsUptoRow.holds Try.pinned (OpenSpec.upto boundFormsSpec)

/-- 'dolelaw24.BoundGrows', WHERE WHAT IT READS IS OF BULK AT MOST 1048576: true; the input reads as it did. -/
def boundGrowsUptoRow : OpenClaim := { program := "ytnpjacfefocjnaa", sum := "0ff7264d61aaca8799968c4d81a5f334a7af6486c6cc46922a72543ef4427dae", func := "dole/dolelaw24.BoundGrows", spec := "boundGrows", named := ["math/bits.divideError", "math/bits.overflowError"], apart := false, narrowed := true }
def BoundGrowsUptoSaid : Prop := boundGrowsUptoRow.holds Try.pinned (OpenSpec.upto boundGrowsSpec)

/-- 'dolelaw03.NiceWeights', WHERE WHAT IT READS IS OF BULK AT MOST 1048576: true; the input reads as it did. -/
def niceWeightsUptoRow : OpenClaim := { program := "ytnpjacfefocjnaa", sum := "0ff7264d61aaca8799968c4d81a5f334a7af6486c6cc46922a72543ef4427dae", func := "dole/dolelaw03.NiceWeights", spec := "niceWeights", unfollowed := true, recurses := true, named := ["math/bits.divideError", "math/bits.overflowError"], apart := false, narrowed := true }
def NiceWeightsUptoSaid : Prop := niceWeightsUptoRow.holds Try.pinned (OpenSpec.upto niceWeightsSpec)

/-- 'dolelaw03.NiceFalls', WHERE WHAT IT READS IS OF BULK AT MOST 1048576: true; the input reads as it did. -/
def niceFallsUptoRow : OpenClaim := { program := "ytnpjacfefocjnaa", sum := "0ff7264d61aaca8799968c4d81a5f334a7af6486c6cc46922a72543ef4427dae", func := "dole/dolelaw03.NiceFalls", spec := "niceFalls", unfollowed := true, recurses := true, named := ["math/bits.divideError", "math/bits.overflowError"], apart := false, narrowed := true }
def NiceFallsUptoSaid : Prop := niceFallsUptoRow.holds Try.pinned (OpenSpec.upto niceFallsSpec)

/-- 'dolelaw24.BoundWaits', WHERE WHAT IT READS IS OF BULK AT MOST 1048576: true; the input reads as it did. -/
def boundWaitsUptoRow : OpenClaim := { program := "ytnpjacfefocjnaa", sum := "0ff7264d61aaca8799968c4d81a5f334a7af6486c6cc46922a72543ef4427dae", func := "dole/dolelaw24.BoundWaits", spec := "boundWaits", recurses := true, named := ["math/bits.divideError", "math/bits.overflowError"], apart := false, narrowed := true }
def BoundWaitsUptoSaid : Prop := boundWaitsUptoRow.holds Try.pinned (OpenSpec.upto boundWaitsSpec)

/-- 'dolelaw21.TurnShares', WHERE WHAT IT READS IS OF BULK AT MOST 1048576: true; the input reads as it did. -/
def turnSharesUptoRow : OpenClaim := { program := "ytnpjacfefocjnaa", sum := "0ff7264d61aaca8799968c4d81a5f334a7af6486c6cc46922a72543ef4427dae", func := "dole/dolelaw21.TurnShares", spec := "turnShares", unfollowed := true, recurses := true, named := ["math/bits.divideError", "math/bits.overflowError"], apart := false, narrowed := true }
def TurnSharesUptoSaid : Prop := turnSharesUptoRow.holds Try.pinned (OpenSpec.upto turnSharesSpec)

/-- 'dolelaw21.TurnDue', WHERE WHAT IT READS IS OF BULK AT MOST 1048576: true; the input reads as it did. -/
def turnDueUptoRow : OpenClaim := { program := "ytnpjacfefocjnaa", sum := "0ff7264d61aaca8799968c4d81a5f334a7af6486c6cc46922a72543ef4427dae", func := "dole/dolelaw21.TurnDue", spec := "turnDue", unfollowed := true, recurses := true, named := ["math/bits.divideError", "math/bits.overflowError"], apart := false, narrowed := true }
def TurnDueUptoSaid : Prop := turnDueUptoRow.holds Try.pinned (OpenSpec.upto turnDueSpec)

/-- 'dolelaw21.TurnPlays', WHERE WHAT IT READS IS OF BULK AT MOST 1048576: true; the input reads as it did. -/
def turnPlaysUptoRow : OpenClaim := { program := "ytnpjacfefocjnaa", sum := "0ff7264d61aaca8799968c4d81a5f334a7af6486c6cc46922a72543ef4427dae", func := "dole/dolelaw21.TurnPlays", spec := "turnPlays", unfollowed := true, recurses := true, named := ["math/bits.divideError", "math/bits.overflowError"], apart := false, narrowed := true }
def TurnPlaysUptoSaid : Prop := turnPlaysUptoRow.holds Try.pinned (OpenSpec.upto turnPlaysSpec)

/-- 'dolelaw21.TurnAll', WHERE WHAT IT READS IS OF BULK AT MOST 1048576: true; the input reads as it did. -/
def turnAllUptoRow : OpenClaim := { program := "ytnpjacfefocjnaa", sum := "0ff7264d61aaca8799968c4d81a5f334a7af6486c6cc46922a72543ef4427dae", func := "dole/dolelaw21.TurnAll", spec := "turnAll", unfollowed := true, recurses := true, named := ["math/bits.divideError", "math/bits.overflowError"], apart := false, narrowed := true }
def TurnAllUptoSaid : Prop := turnAllUptoRow.holds Try.pinned (OpenSpec.upto turnAllSpec)

/-- 'dolelaw21.TurnNobody', WHERE WHAT IT READS IS OF BULK AT MOST 1048576: true; the input reads as it did. -/
def turnNobodyUptoRow : OpenClaim := { program := "ytnpjacfefocjnaa", sum := "0ff7264d61aaca8799968c4d81a5f334a7af6486c6cc46922a72543ef4427dae", func := "dole/dolelaw21.TurnNobody", spec := "turnNobody", unfollowed := true, recurses := true, named := ["math/bits.divideError", "math/bits.overflowError"], apart := false, narrowed := true }
def TurnNobodyUptoSaid : Prop := turnNobodyUptoRow.holds Try.pinned (OpenSpec.upto turnNobodySpec)

/-- 'dolelaw21.TurnSlices', WHERE WHAT IT READS IS OF BULK AT MOST 1048576: true; the input reads as it did. -/
def turnSlicesUptoRow : OpenClaim := { program := "ytnpjacfefocjnaa", sum := "0ff7264d61aaca8799968c4d81a5f334a7af6486c6cc46922a72543ef4427dae", func := "dole/dolelaw21.TurnSlices", spec := "turnSlices", unfollowed := true, recurses := true, named := ["math/bits.divideError", "math/bits.overflowError"], apart := false, narrowed := true }
def TurnSlicesUptoSaid : Prop := turnSlicesUptoRow.holds Try.pinned (OpenSpec.upto turnSlicesSpec)

/-- 'dolelaw21.TurnBetter', WHERE WHAT IT READS IS OF BULK AT MOST 1048576: true; the input reads as it did. -/
def turnBetterUptoRow : OpenClaim := { program := "ytnpjacfefocjnaa", sum := "0ff7264d61aaca8799968c4d81a5f334a7af6486c6cc46922a72543ef4427dae", func := "dole/dolelaw21.TurnBetter", spec := "turnBetter", unfollowed := true, recurses := true, named := ["math/bits.divideError", "math/bits.overflowError"], apart := false, narrowed := true }
def TurnBetterUptoSaid : Prop := turnBetterUptoRow.holds Try.pinned (OpenSpec.upto turnBetterSpec)

end Rows
end Go.Proofs.Ytnpjacfefocjnaa
