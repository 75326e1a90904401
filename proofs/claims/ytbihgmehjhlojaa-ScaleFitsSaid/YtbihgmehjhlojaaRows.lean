/-
  No cell of these rows narrows 'for every input' (looked for: loops, veiled, ifaces, maps, wideKeys, modest, calm, conditions, laid).
  DERIVED. THE GIVEN ROWS OF THIS SEAT. 21 by the template 'for every input the law returns true; each argument reads behind the call as it read before'; 0 by the template 'total and deterministic' (their statements: YtbihgmehjhlojaaTotals.lean).
  GIVEN WITH THE SEED: the statements are not yours to turn. If you find one false, say at which input.
  Laid BY PROGRAM, IN A SANDBOX (cutbox-rows.mjs): the forced cells as the released guide's own fill.sh prints them over the translation a16330553e886ab3… (all of the seat's roots in one cut). By AI agents, Wed Nov 11 2026. No macro, syntax, notation, axiom, sorry.
-/
import Derived.Test.YtbihgmehjhlojaaChecked
import GoSem.Claim
import GoSem.ClaimJoined
import GoSem.ClaimMapViews
import Derived.JoinedTies
import Derived.KernelRfl
namespace Go.Proofs.Ytbihgmehjhlojaa
/- THE CELL 'sum', in the pinned program and in every row, IS THE sha256 OF THE DUMP (.gsa) THAT YtbihgmehjhlojaaProg.lean LOADS. Nothing in Lean hashes anything: it is a label: what it is worth is what the hold of that sum in a sandbox is worth. -/
noncomputable def Try.pinned : Pinned := { name := "ytbihgmehjhlojaa", sum := "a16330553e886ab391741eeddb2d818c460abd245ed5ae0c48aadebc490fce8a", checked := Try.checked }
namespace Rows
def none {H : Type} : Left H := { results := [], args := [] }

/-- 'tidepolelaw10.FhistFloats': WHATEVER THE INPUT: true; the input reads as it did. -/
def fhistFloatsSpec : ChangeSpec := { name := "fhistFloats", fn := fun _ => fun
  | [d1, d2, d3] => { results := [.lit (.bool true)], args := [d1, d2, d3] }
  | _ => none }
def fhistFloatsRow : OpenClaim := { program := "ytbihgmehjhlojaa", sum := "a16330553e886ab391741eeddb2d818c460abd245ed5ae0c48aadebc490fce8a", func := "tidepole/tidepolelaw10.FhistFloats", spec := "fhistFloats", inPlace := ["math.Float64frombits", "math.archTrunc", "math.Float64bits", "math/bits.Add64"], unfollowed := true, recurses := true, apart := false }
def FhistFloatsSaid : Prop := fhistFloatsRow.holds Try.pinned (OpenSpec.ofChange fhistFloatsSpec)

/-- ITS FALSE NEIGHBOUR: 'it returns false'. Refute it at one input. -/
def fhistFloatsWrong : ChangeSpec := { name := "fhistFloats", fn := fun _ => fun
  | [d1, d2, d3] => { results := [.lit (.bool false)], args := [d1, d2, d3] }
  | _ => none }
def FhistFloatsWrongFalsely : Prop := fhistFloatsRow.holds Try.pinned (OpenSpec.ofChange fhistFloatsWrong)

/-- 'tidepolelaw30.LabelsMatches': WHATEVER THE INPUT: true; the input reads as it did. -/
def labelsMatchesSpec : ChangeSpec := { name := "labelsMatches", fn := fun _ => fun
  | [d1, d2, d3] => { results := [.lit (.bool true)], args := [d1, d2, d3] }
  | _ => none }
def labelsMatchesRow : OpenClaim := { program := "ytbihgmehjhlojaa", sum := "a16330553e886ab391741eeddb2d818c460abd245ed5ae0c48aadebc490fce8a", func := "tidepole/tidepolelaw30.LabelsMatches", spec := "labelsMatches", inPlace := ["internal/abi.NoEscape", "internal/bytealg.MakeNoZero", "internal/bytealg.IndexByteString", "internal/bytealg.IndexString", "internal/bytealg.abigen_runtime_cmpstring"], unfollowed := true, recurses := true, named := ["internal/bytealg.MaxLen"], apart := false }
def LabelsMatchesSaid : Prop := labelsMatchesRow.holds Try.pinned (OpenSpec.ofChange labelsMatchesSpec)

/-- ITS FALSE NEIGHBOUR: 'it returns false'. Refute it at one input. -/
def labelsMatchesWrong : ChangeSpec := { name := "labelsMatches", fn := fun _ => fun
  | [d1, d2, d3] => { results := [.lit (.bool false)], args := [d1, d2, d3] }
  | _ => none }
def LabelsMatchesWrongFalsely : Prop := labelsMatchesRow.holds Try.pinned (OpenSpec.ofChange labelsMatchesWrong)

/-- 'tidepolelaw30.LabelsApart': WHATEVER THE INPUT: true; the input reads as it did. -/
def labelsApartSpec : ChangeSpec := { name := "labelsApart", fn := fun _ => fun
  | [d1, d2] => { results := [.lit (.bool true)], args := [d1, d2] }
  | _ => none }
def labelsApartRow : OpenClaim := { program := "ytbihgmehjhlojaa", sum := "a16330553e886ab391741eeddb2d818c460abd245ed5ae0c48aadebc490fce8a", func := "tidepole/tidepolelaw30.LabelsApart", spec := "labelsApart", inPlace := ["internal/abi.NoEscape", "internal/bytealg.MakeNoZero", "internal/bytealg.IndexByteString", "internal/bytealg.IndexString", "internal/bytealg.abigen_runtime_cmpstring"], unfollowed := true, recurses := true, named := ["internal/bytealg.MaxLen"], apart := false }
def LabelsApartSaid : Prop := labelsApartRow.holds Try.pinned (OpenSpec.ofChange labelsApartSpec)

/-- ITS FALSE NEIGHBOUR: 'it returns false'. Refute it at one input. -/
def labelsApartWrong : ChangeSpec := { name := "labelsApart", fn := fun _ => fun
  | [d1, d2] => { results := [.lit (.bool false)], args := [d1, d2] }
  | _ => none }
def LabelsApartWrongFalsely : Prop := labelsApartRow.holds Try.pinned (OpenSpec.ofChange labelsApartWrong)

/-- 'tidepolelaw10.FhistBack': WHATEVER THE INPUT: true; the input reads as it did. -/
def fhistBackSpec : ChangeSpec := { name := "fhistBack", fn := fun _ => fun
  | [d] => { results := [.lit (.bool true)], args := [d] }
  | _ => none }
def fhistBackRow : OpenClaim := { program := "ytbihgmehjhlojaa", sum := "a16330553e886ab391741eeddb2d818c460abd245ed5ae0c48aadebc490fce8a", func := "tidepole/tidepolelaw10.FhistBack", spec := "fhistBack", inPlace := ["math.Float64frombits", "math.archTrunc", "math.Float64bits", "math/bits.Add64"], unfollowed := true, recurses := true, apart := false }
def FhistBackSaid : Prop := fhistBackRow.holds Try.pinned (OpenSpec.ofChange fhistBackSpec)

/-- ITS FALSE NEIGHBOUR: 'it returns false'. Refute it at one input. -/
def fhistBackWrong : ChangeSpec := { name := "fhistBack", fn := fun _ => fun
  | [d] => { results := [.lit (.bool false)], args := [d] }
  | _ => none }
def FhistBackWrongFalsely : Prop := fhistBackRow.holds Try.pinned (OpenSpec.ofChange fhistBackWrong)

/-- 'tidepolelaw10.FhistFrom': WHATEVER THE INPUT: true; the input reads as it did. -/
def fhistFromSpec : ChangeSpec := { name := "fhistFrom", fn := fun _ => fun
  | [d] => { results := [.lit (.bool true)], args := [d] }
  | _ => none }
def fhistFromRow : OpenClaim := { program := "ytbihgmehjhlojaa", sum := "a16330553e886ab391741eeddb2d818c460abd245ed5ae0c48aadebc490fce8a", func := "tidepole/tidepolelaw10.FhistFrom", spec := "fhistFrom", inPlace := ["math.Float64frombits", "math.archTrunc", "math.Float64bits", "math/bits.Add64"], unfollowed := true, recurses := true, apart := false }
def FhistFromSaid : Prop := fhistFromRow.holds Try.pinned (OpenSpec.ofChange fhistFromSpec)

/-- ITS FALSE NEIGHBOUR: 'it returns false'. Refute it at one input. -/
def fhistFromWrong : ChangeSpec := { name := "fhistFrom", fn := fun _ => fun
  | [d] => { results := [.lit (.bool false)], args := [d] }
  | _ => none }
def FhistFromWrongFalsely : Prop := fhistFromRow.holds Try.pinned (OpenSpec.ofChange fhistFromWrong)

/-- 'tidepolelaw25.ScalePlaces': WHATEVER THE INPUT: true; the input reads as it did. -/
def scalePlacesSpec : ChangeSpec := { name := "scalePlaces", fn := fun _ => fun
  | [d1, d2, d3] => { results := [.lit (.bool true)], args := [d1, d2, d3] }
  | _ => none }
def scalePlacesRow : OpenClaim := { program := "ytbihgmehjhlojaa", sum := "a16330553e886ab391741eeddb2d818c460abd245ed5ae0c48aadebc490fce8a", func := "tidepole/tidepolelaw25.ScalePlaces", spec := "scalePlaces", inPlace := ["math/bits.Add64", "math.Float64bits", "math.Float64frombits"], unfollowed := true, recurses := true, apart := false }
def ScalePlacesSaid : Prop := scalePlacesRow.holds Try.pinned (OpenSpec.ofChange scalePlacesSpec)

/-- ITS FALSE NEIGHBOUR: 'it returns false'. Refute it at one input. -/
def scalePlacesWrong : ChangeSpec := { name := "scalePlaces", fn := fun _ => fun
  | [d1, d2, d3] => { results := [.lit (.bool false)], args := [d1, d2, d3] }
  | _ => none }
def ScalePlacesWrongFalsely : Prop := scalePlacesRow.holds Try.pinned (OpenSpec.ofChange scalePlacesWrong)

/-- 'tidepolelaw25.ScaleInts': WHATEVER THE INPUT: true; the input reads as it did. -/
def scaleIntsSpec : ChangeSpec := { name := "scaleInts", fn := fun _ => fun
  | [d1, d2] => { results := [.lit (.bool true)], args := [d1, d2] }
  | _ => none }
def scaleIntsRow : OpenClaim := { program := "ytbihgmehjhlojaa", sum := "a16330553e886ab391741eeddb2d818c460abd245ed5ae0c48aadebc490fce8a", func := "tidepole/tidepolelaw25.ScaleInts", spec := "scaleInts", inPlace := ["math/bits.Add64", "math.Float64bits", "math.Float64frombits"], unfollowed := true, recurses := true, apart := false }
def ScaleIntsSaid : Prop := scaleIntsRow.holds Try.pinned (OpenSpec.ofChange scaleIntsSpec)

/-- ITS FALSE NEIGHBOUR: 'it returns false'. Refute it at one input. -/
def scaleIntsWrong : ChangeSpec := { name := "scaleInts", fn := fun _ => fun
  | [d1, d2] => { results := [.lit (.bool false)], args := [d1, d2] }
  | _ => none }
def ScaleIntsWrongFalsely : Prop := scaleIntsRow.holds Try.pinned (OpenSpec.ofChange scaleIntsWrong)

/-- 'tidepolelaw25.ScaleFloats': WHATEVER THE INPUT: true; the input reads as it did. -/
def scaleFloatsSpec : ChangeSpec := { name := "scaleFloats", fn := fun _ => fun
  | [d1, d2] => { results := [.lit (.bool true)], args := [d1, d2] }
  | _ => none }
def scaleFloatsRow : OpenClaim := { program := "ytbihgmehjhlojaa", sum := "a16330553e886ab391741eeddb2d818c460abd245ed5ae0c48aadebc490fce8a", func := "tidepole/tidepolelaw25.ScaleFloats", spec := "scaleFloats", inPlace := ["math/bits.Add64", "math.Float64bits", "math.Float64frombits"], unfollowed := true, recurses := true, apart := false }
def ScaleFloatsSaid : Prop := scaleFloatsRow.holds Try.pinned (OpenSpec.ofChange scaleFloatsSpec)

/-- ITS FALSE NEIGHBOUR: 'it returns false'. Refute it at one input. -/
def scaleFloatsWrong : ChangeSpec := { name := "scaleFloats", fn := fun _ => fun
  | [d1, d2] => { results := [.lit (.bool false)], args := [d1, d2] }
  | _ => none }
def ScaleFloatsWrongFalsely : Prop := scaleFloatsRow.holds Try.pinned (OpenSpec.ofChange scaleFloatsWrong)

/-- 'tidepolelaw25.ScaleKeeps': WHATEVER THE INPUT: true; the input reads as it did. -/
def scaleKeepsSpec : ChangeSpec := { name := "scaleKeeps", fn := fun _ => fun
  | [d1, d2] => { results := [.lit (.bool true)], args := [d1, d2] }
  | _ => none }
def scaleKeepsRow : OpenClaim := { program := "ytbihgmehjhlojaa", sum := "a16330553e886ab391741eeddb2d818c460abd245ed5ae0c48aadebc490fce8a", func := "tidepole/tidepolelaw25.ScaleKeeps", spec := "scaleKeeps", inPlace := ["math/bits.Add64", "math.Float64bits", "math.Float64frombits"], unfollowed := true, recurses := true, apart := false }
def ScaleKeepsSaid : Prop := scaleKeepsRow.holds Try.pinned (OpenSpec.ofChange scaleKeepsSpec)

/-- ITS FALSE NEIGHBOUR: 'it returns false'. Refute it at one input. -/
def scaleKeepsWrong : ChangeSpec := { name := "scaleKeeps", fn := fun _ => fun
  | [d1, d2] => { results := [.lit (.bool false)], args := [d1, d2] }
  | _ => none }
def ScaleKeepsWrongFalsely : Prop := scaleKeepsRow.holds Try.pinned (OpenSpec.ofChange scaleKeepsWrong)

/-- 'tidepolelaw25.ScaleFits': WHATEVER THE INPUT: true; the input reads as it did. -/
def scaleFitsSpec : ChangeSpec := { name := "scaleFits", fn := fun _ => fun
  | [d1, d2] => { results := [.lit (.bool true)], args := [d1, d2] }
  | _ => none }
def scaleFitsRow : OpenClaim := { program := "ytbihgmehjhlojaa", sum := "a16330553e886ab391741eeddb2d818c460abd245ed5ae0c48aadebc490fce8a", func := "tidepole/tidepolelaw25.ScaleFits", spec := "scaleFits", inPlace := ["math/bits.Add64", "math.Float64bits", "math.Float64frombits"], unfollowed := true, recurses := true, apart := false }
def ScaleFitsSaid : Prop := scaleFitsRow.holds Try.pinned (OpenSpec.ofChange scaleFitsSpec)

/-- ITS FALSE NEIGHBOUR: 'it returns false'. Refute it at one input. -/
def scaleFitsWrong : ChangeSpec := { name := "scaleFits", fn := fun _ => fun
  | [d1, d2] => { results := [.lit (.bool false)], args := [d1, d2] }
  | _ => none }
def ScaleFitsWrongFalsely : Prop := scaleFitsRow.holds Try.pinned (OpenSpec.ofChange scaleFitsWrong)

/-- 'tidepolelaw25.ScaleTwice': WHATEVER THE INPUT: true; the input reads as it did. -/
def scaleTwiceSpec : ChangeSpec := { name := "scaleTwice", fn := fun _ => fun
  | [d1, d2, d3] => { results := [.lit (.bool true)], args := [d1, d2, d3] }
  | _ => none }
def scaleTwiceRow : OpenClaim := { program := "ytbihgmehjhlojaa", sum := "a16330553e886ab391741eeddb2d818c460abd245ed5ae0c48aadebc490fce8a", func := "tidepole/tidepolelaw25.ScaleTwice", spec := "scaleTwice", inPlace := ["math/bits.Add64", "math.Float64bits", "math.Float64frombits"], unfollowed := true, recurses := true, apart := false }
def ScaleTwiceSaid : Prop := scaleTwiceRow.holds Try.pinned (OpenSpec.ofChange scaleTwiceSpec)

/-- ITS FALSE NEIGHBOUR: 'it returns false'. Refute it at one input. -/
def scaleTwiceWrong : ChangeSpec := { name := "scaleTwice", fn := fun _ => fun
  | [d1, d2, d3] => { results := [.lit (.bool false)], args := [d1, d2, d3] }
  | _ => none }
def ScaleTwiceWrongFalsely : Prop := scaleTwiceRow.holds Try.pinned (OpenSpec.ofChange scaleTwiceWrong)

/-- 'tidepolelaw25.ScaleResets': WHATEVER THE INPUT: true; the input reads as it did. -/
def scaleResetsSpec : ChangeSpec := { name := "scaleResets", fn := fun _ => fun
  | [d1, d2, d3] => { results := [.lit (.bool true)], args := [d1, d2, d3] }
  | _ => none }
def scaleResetsRow : OpenClaim := { program := "ytbihgmehjhlojaa", sum := "a16330553e886ab391741eeddb2d818c460abd245ed5ae0c48aadebc490fce8a", func := "tidepole/tidepolelaw25.ScaleResets", spec := "scaleResets", inPlace := ["math/bits.Add64", "math.Float64bits", "math.Float64frombits"], unfollowed := true, recurses := true, apart := false }
def ScaleResetsSaid : Prop := scaleResetsRow.holds Try.pinned (OpenSpec.ofChange scaleResetsSpec)

/-- ITS FALSE NEIGHBOUR: 'it returns false'. Refute it at one input. -/
def scaleResetsWrong : ChangeSpec := { name := "scaleResets", fn := fun _ => fun
  | [d1, d2, d3] => { results := [.lit (.bool false)], args := [d1, d2, d3] }
  | _ => none }
def ScaleResetsWrongFalsely : Prop := scaleResetsRow.holds Try.pinned (OpenSpec.ofChange scaleResetsWrong)

/-- 'tidepolelaw29.RankScales': WHATEVER THE INPUT: true; the input reads as it did. -/
def rankScalesSpec : ChangeSpec := { name := "rankScales", fn := fun _ => fun
  | [d1, d2, d3] => { results := [.lit (.bool true)], args := [d1, d2, d3] }
  | _ => none }
def rankScalesRow : OpenClaim := { program := "ytbihgmehjhlojaa", sum := "a16330553e886ab391741eeddb2d818c460abd245ed5ae0c48aadebc490fce8a", func := "tidepole/tidepolelaw29.RankScales", spec := "rankScales", inPlace := ["math/bits.Add64"], unfollowed := true, recurses := true, named := ["math/bits.divideError", "math/bits.overflowError"], apart := false }
def RankScalesSaid : Prop := rankScalesRow.holds Try.pinned (OpenSpec.ofChange rankScalesSpec)

/-- ITS FALSE NEIGHBOUR: 'it returns false'. Refute it at one input. -/
def rankScalesWrong : ChangeSpec := { name := "rankScales", fn := fun _ => fun
  | [d1, d2, d3] => { results := [.lit (.bool false)], args := [d1, d2, d3] }
  | _ => none }
def RankScalesWrongFalsely : Prop := rankScalesRow.holds Try.pinned (OpenSpec.ofChange rankScalesWrong)

/-- 'tidepolelaw27.AddSums': WHATEVER THE INPUT: true; the input reads as it did. -/
def addSumsSpec : ChangeSpec := { name := "addSums", fn := fun _ => fun
  | [d1, d2] => { results := [.lit (.bool true)], args := [d1, d2] }
  | _ => none }
def addSumsRow : OpenClaim := { program := "ytbihgmehjhlojaa", sum := "a16330553e886ab391741eeddb2d818c460abd245ed5ae0c48aadebc490fce8a", func := "tidepole/tidepolelaw27.AddSums", spec := "addSums", inPlace := ["math.Float64frombits", "math.Float64bits", "math/bits.Add64", "math/bits.Sub64"], unfollowed := true, recurses := true, apart := false }
def AddSumsSaid : Prop := addSumsRow.holds Try.pinned (OpenSpec.ofChange addSumsSpec)

/-- ITS FALSE NEIGHBOUR: 'it returns false'. Refute it at one input. -/
def addSumsWrong : ChangeSpec := { name := "addSums", fn := fun _ => fun
  | [d1, d2] => { results := [.lit (.bool false)], args := [d1, d2] }
  | _ => none }
def AddSumsWrongFalsely : Prop := addSumsRow.holds Try.pinned (OpenSpec.ofChange addSumsWrong)

/-- 'tidepolelaw27.AddInts': WHATEVER THE INPUT: true; the input reads as it did. -/
def addIntsSpec : ChangeSpec := { name := "addInts", fn := fun _ => fun
  | [d1, d2] => { results := [.lit (.bool true)], args := [d1, d2] }
  | _ => none }
def addIntsRow : OpenClaim := { program := "ytbihgmehjhlojaa", sum := "a16330553e886ab391741eeddb2d818c460abd245ed5ae0c48aadebc490fce8a", func := "tidepole/tidepolelaw27.AddInts", spec := "addInts", inPlace := ["math/bits.Add64", "math.Float64frombits", "math.Float64bits", "math/bits.Sub64"], unfollowed := true, recurses := true, apart := false }
def AddIntsSaid : Prop := addIntsRow.holds Try.pinned (OpenSpec.ofChange addIntsSpec)

/-- ITS FALSE NEIGHBOUR: 'it returns false'. Refute it at one input. -/
def addIntsWrong : ChangeSpec := { name := "addInts", fn := fun _ => fun
  | [d1, d2] => { results := [.lit (.bool false)], args := [d1, d2] }
  | _ => none }
def AddIntsWrongFalsely : Prop := addIntsRow.holds Try.pinned (OpenSpec.ofChange addIntsWrong)

/-- 'tidepolelaw27.AddTurns': WHATEVER THE INPUT: true; the input reads as it did. -/
def addTurnsSpec : ChangeSpec := { name := "addTurns", fn := fun _ => fun
  | [d1, d2] => { results := [.lit (.bool true)], args := [d1, d2] }
  | _ => none }
def addTurnsRow : OpenClaim := { program := "ytbihgmehjhlojaa", sum := "a16330553e886ab391741eeddb2d818c460abd245ed5ae0c48aadebc490fce8a", func := "tidepole/tidepolelaw27.AddTurns", spec := "addTurns", inPlace := ["math/bits.Add64", "math.Float64frombits", "math.Float64bits", "math/bits.Sub64"], unfollowed := true, recurses := true, apart := false }
def AddTurnsSaid : Prop := addTurnsRow.holds Try.pinned (OpenSpec.ofChange addTurnsSpec)

/-- ITS FALSE NEIGHBOUR: 'it returns false'. Refute it at one input. -/
def addTurnsWrong : ChangeSpec := { name := "addTurns", fn := fun _ => fun
  | [d1, d2] => { results := [.lit (.bool false)], args := [d1, d2] }
  | _ => none }
def AddTurnsWrongFalsely : Prop := addTurnsRow.holds Try.pinned (OpenSpec.ofChange addTurnsWrong)

/-- 'tidepolelaw27.AddJoins': WHATEVER THE INPUT: true; the input reads as it did. -/
def addJoinsSpec : ChangeSpec := { name := "addJoins", fn := fun _ => fun
  | [d1, d2, d3] => { results := [.lit (.bool true)], args := [d1, d2, d3] }
  | _ => none }
def addJoinsRow : OpenClaim := { program := "ytbihgmehjhlojaa", sum := "a16330553e886ab391741eeddb2d818c460abd245ed5ae0c48aadebc490fce8a", func := "tidepole/tidepolelaw27.AddJoins", spec := "addJoins", inPlace := ["math/bits.Add64", "math.Float64frombits", "math.Float64bits", "math/bits.Sub64"], unfollowed := true, recurses := true, apart := false }
def AddJoinsSaid : Prop := addJoinsRow.holds Try.pinned (OpenSpec.ofChange addJoinsSpec)

/-- ITS FALSE NEIGHBOUR: 'it returns false'. Refute it at one input. -/
def addJoinsWrong : ChangeSpec := { name := "addJoins", fn := fun _ => fun
  | [d1, d2, d3] => { results := [.lit (.bool false)], args := [d1, d2, d3] }
  | _ => none }
def AddJoinsWrongFalsely : Prop := addJoinsRow.holds Try.pinned (OpenSpec.ofChange addJoinsWrong)

/-- 'tidepolelaw27.AddLess': WHATEVER THE INPUT: true; the input reads as it did. -/
def addLessSpec : ChangeSpec := { name := "addLess", fn := fun _ => fun
  | [d1, d2] => { results := [.lit (.bool true)], args := [d1, d2] }
  | _ => none }
def addLessRow : OpenClaim := { program := "ytbihgmehjhlojaa", sum := "a16330553e886ab391741eeddb2d818c460abd245ed5ae0c48aadebc490fce8a", func := "tidepole/tidepolelaw27.AddLess", spec := "addLess", inPlace := ["math/bits.Add64", "math.Float64frombits", "math.Float64bits", "math/bits.Sub64"], unfollowed := true, recurses := true, apart := false }
def AddLessSaid : Prop := addLessRow.holds Try.pinned (OpenSpec.ofChange addLessSpec)

/-- ITS FALSE NEIGHBOUR: 'it returns false'. Refute it at one input. -/
def addLessWrong : ChangeSpec := { name := "addLess", fn := fun _ => fun
  | [d1, d2] => { results := [.lit (.bool false)], args := [d1, d2] }
  | _ => none }
def AddLessWrongFalsely : Prop := addLessRow.holds Try.pinned (OpenSpec.ofChange addLessWrong)

/-- 'tidepolelaw27.AddBack': WHATEVER THE INPUT: true; the input reads as it did. -/
def addBackSpec : ChangeSpec := { name := "addBack", fn := fun _ => fun
  | [d1, d2] => { results := [.lit (.bool true)], args := [d1, d2] }
  | _ => none }
def addBackRow : OpenClaim := { program := "ytbihgmehjhlojaa", sum := "a16330553e886ab391741eeddb2d818c460abd245ed5ae0c48aadebc490fce8a", func := "tidepole/tidepolelaw27.AddBack", spec := "addBack", inPlace := ["math/bits.Add64", "math.Float64frombits", "math.Float64bits", "math/bits.Sub64"], unfollowed := true, recurses := true, apart := false }
def AddBackSaid : Prop := addBackRow.holds Try.pinned (OpenSpec.ofChange addBackSpec)

/-- ITS FALSE NEIGHBOUR: 'it returns false'. Refute it at one input. -/
def addBackWrong : ChangeSpec := { name := "addBack", fn := fun _ => fun
  | [d1, d2] => { results := [.lit (.bool false)], args := [d1, d2] }
  | _ => none }
def AddBackWrongFalsely : Prop := addBackRow.holds Try.pinned (OpenSpec.ofChange addBackWrong)

/-- 'tidepolelaw27.AddAll': WHATEVER THE INPUT: true; the input reads as it did. -/
def addAllSpec : ChangeSpec := { name := "addAll", fn := fun _ => fun
  | [d] => { results := [.lit (.bool true)], args := [d] }
  | _ => none }
def addAllRow : OpenClaim := { program := "ytbihgmehjhlojaa", sum := "a16330553e886ab391741eeddb2d818c460abd245ed5ae0c48aadebc490fce8a", func := "tidepole/tidepolelaw27.AddAll", spec := "addAll", inPlace := ["math/bits.Add64", "math.Float64frombits", "math.Float64bits", "math/bits.Sub64"], unfollowed := true, recurses := true, apart := false }
def AddAllSaid : Prop := addAllRow.holds Try.pinned (OpenSpec.ofChange addAllSpec)

/-- ITS FALSE NEIGHBOUR: 'it returns false'. Refute it at one input. -/
def addAllWrong : ChangeSpec := { name := "addAll", fn := fun _ => fun
  | [d] => { results := [.lit (.bool false)], args := [d] }
  | _ => none }
def AddAllWrongFalsely : Prop := addAllRow.holds Try.pinned (OpenSpec.ofChange addAllWrong)

/-- 'tidepolelaw28.RiseNever': WHATEVER THE INPUT: true; the input reads as it did. -/
def riseNeverSpec : ChangeSpec := { name := "riseNever", fn := fun _ => fun
  | [d] => { results := [.lit (.bool true)], args := [d] }
  | _ => none }
def riseNeverRow : OpenClaim := { program := "ytbihgmehjhlojaa", sum := "a16330553e886ab391741eeddb2d818c460abd245ed5ae0c48aadebc490fce8a", func := "tidepole/tidepolelaw28.RiseNever", spec := "riseNever", inPlace := ["math/bits.Add64", "math.Float64frombits", "math.Float64bits", "math/bits.Sub64"], unfollowed := true, recurses := true, apart := false }
def RiseNeverSaid : Prop := riseNeverRow.holds Try.pinned (OpenSpec.ofChange riseNeverSpec)

/-- ITS FALSE NEIGHBOUR: 'it returns false'. Refute it at one input. -/
def riseNeverWrong : ChangeSpec := { name := "riseNever", fn := fun _ => fun
  | [d] => { results := [.lit (.bool false)], args := [d] }
  | _ => none }
def RiseNeverWrongFalsely : Prop := riseNeverRow.holds Try.pinned (OpenSpec.ofChange riseNeverWrong)

/- THE SECOND FORM. 'bulk': how many values and letters a reading holds, each counted each time it is reached (what is shared counts as often as it is met; a slice's spare places count too). A statement '..UptoSaid' is the law's where the arguments, and the package variables that the reading takes, are together of bulk at most 1048576: NARROWER than '..Said'. Prove '..Said' where nothing that the law and all that it calls make is longer than what came in: it says more and counts as full. Else prove '..UptoSaid'. A law counts once. -/
mutual
def uptoBulk {H : Type} : DataW H → Nat
  | .lit (.string bytes) => bytes.length + 1
  | .lit _ => 1
  | .nil => 1
  | .ptr d => uptoBulk d + 1
  | .slice elems spare => uptoBulkAll elems + uptoBulkAll spare + 1
  | .agg parts => uptoBulkAll parts + 1
  | .iface _ d => uptoBulk d + 1
  | .map entries => uptoBulkEntries entries + 1
  | .held _ => 1
def uptoBulkAll {H : Type} : List (DataW H) → Nat
  | [] => 0
  | d :: r => uptoBulk d + uptoBulkAll r
def uptoBulkEntries {H : Type} : List (Lit × DataW H) → Nat
  | [] => 0
  | x :: r => uptoBulkEntry x + uptoBulkEntries r
def uptoBulkEntry {H : Type} : Lit × DataW H → Nat
  | (.string bytes, d) => bytes.length + uptoBulk d + 1
  | (_, d) => uptoBulk d + 1
 end
def uptoSmall : (H : Type) → List (DataW H) → Bool := fun _ ds => decide (uptoBulkAll ds ≤ 1048576)
def OpenSpec.upto (s : _root_.Go.ChangeSpec) : _root_.Go.OpenSpec := { _root_.Go.OpenSpec.ofChange s with cond := some uptoSmall }

/-- 'tidepolelaw10.FhistFloats', WHERE WHAT IT READS IS OF BULK AT MOST 1048576: true; the input reads as it did. -/
def fhistFloatsUptoRow : OpenClaim := { program := "ytbihgmehjhlojaa", sum := "a16330553e886ab391741eeddb2d818c460abd245ed5ae0c48aadebc490fce8a", func := "tidepole/tidepolelaw10.FhistFloats", spec := "fhistFloats", inPlace := ["math.Float64frombits", "math.archTrunc", "math.Float64bits", "math/bits.Add64"], unfollowed := true, recurses := true, apart := false, narrowed := true }
def FhistFloatsUptoSaid : Prop := fhistFloatsUptoRow.holds Try.pinned (OpenSpec.upto fhistFloatsSpec)

/-- 'tidepolelaw30.LabelsMatches', WHERE WHAT IT READS IS OF BULK AT MOST 1048576: true; the input reads as it did. -/
def labelsMatchesUptoRow : OpenClaim := { program := "ytbihgmehjhlojaa", sum := "a16330553e886ab391741eeddb2d818c460abd245ed5ae0c48aadebc490fce8a", func := "tidepole/tidepolelaw30.LabelsMatches", spec := "labelsMatches", inPlace := ["internal/abi.NoEscape", "internal/bytealg.MakeNoZero", "internal/bytealg.IndexByteString", "internal/bytealg.IndexString", "internal/bytealg.abigen_runtime_cmpstring"], unfollowed := true, recurses := true, named := ["internal/bytealg.MaxLen"], apart := false, narrowed := true }
def LabelsMatchesUptoSaid : Prop := labelsMatchesUptoRow.holds Try.pinned (OpenSpec.upto labelsMatchesSpec)

/-- 'tidepolelaw30.LabelsApart', WHERE WHAT IT READS IS OF BULK AT MOST 1048576: true; the input reads as it did. -/
def labelsApartUptoRow : OpenClaim := { program := "ytbihgmehjhlojaa", sum := "a16330553e886ab391741eeddb2d818c460abd245ed5ae0c48aadebc490fce8a", func := "tidepole/tidepolelaw30.LabelsApart", spec := "labelsApart", inPlace := ["internal/abi.NoEscape", "internal/bytealg.MakeNoZero", "internal/bytealg.IndexByteString", "internal/bytealg.IndexString", "internal/bytealg.abigen_runtime_cmpstring"], unfollowed := true, recurses := true, named := ["internal/bytealg.MaxLen"], apart := false, narrowed := true }
def LabelsApartUptoSaid : Prop := labelsApartUptoRow.holds Try.pinned (OpenSpec.upto labelsApartSpec)

/-- 'tidepolelaw10.FhistBack', WHERE WHAT IT READS IS OF BULK AT MOST 1048576: true; the input reads as it did. -/
def fhistBackUptoRow : OpenClaim := { program := "ytbihgmehjhlojaa", sum := "a16330553e886ab391741eeddb2d818c460abd245ed5ae0c48aadebc490fce8a", func := "tidepole/tidepolelaw10.FhistBack", spec := "fhistBack", inPlace := ["math.Float64frombits", "math.archTrunc", "math.Float64bits", "math/bits.Add64"], unfollowed := true, recurses := true, apart := false, narrowed := true }
def FhistBackUptoSaid : Prop := fhistBackUptoRow.holds Try.pinned (OpenSpec.upto fhistBackSpec)

/-- 'tidepolelaw10.FhistFrom', WHERE WHAT IT READS IS OF BULK AT MOST 1048576: true; the input reads as it did. -/
def fhistFromUptoRow : OpenClaim := { program := "ytbihgmehjhlojaa", sum := "a16330553e886ab391741eeddb2d818c460abd245ed5ae0c48aadebc490fce8a", func := "tidepole/tidepolelaw10.FhistFrom", spec := "fhistFrom", inPlace := ["math.Float64frombits", "math.archTrunc", "math.Float64bits", "math/bits.Add64"], unfollowed := true, recurses := true, apart := false, narrowed := true }
def FhistFromUptoSaid : Prop := fhistFromUptoRow.holds Try.pinned (OpenSpec.upto fhistFromSpec)

/-- 'tidepolelaw25.ScalePlaces', WHERE WHAT IT READS IS OF BULK AT MOST 1048576: true; the input reads as it did. -/
def scalePlacesUptoRow : OpenClaim := { program := "ytbihgmehjhlojaa", sum := "a16330553e886ab391741eeddb2d818c460abd245ed5ae0c48aadebc490fce8a", func := "tidepole/tidepolelaw25.ScalePlaces", spec := "scalePlaces", inPlace := ["math/bits.Add64", "math.Float64bits", "math.Float64frombits"], unfollowed := true, recurses := true, apart := false, narrowed := true }
def ScalePlacesUptoSaid : Prop := scalePlacesUptoRow.holds Try.pinned (OpenSpec.upto scalePlacesSpec)

/-- 'tidepolelaw25.ScaleInts', WHERE WHAT IT READS IS OF BULK AT MOST 1048576: true; the input reads as it did. -/
def scaleIntsUptoRow : OpenClaim := { program := "ytbihgmehjhlojaa", sum := "a16330553e886ab391741eeddb2d818c460abd245ed5ae0c48aadebc490fce8a", func := "tidepole/tidepolelaw25.ScaleInts", spec := "scaleInts", inPlace := ["math/bits.Add64", "math.Float64bits", "math.Float64frombits"], unfollowed := true, recurses := true, apart := false, narrowed := true }
def ScaleIntsUptoSaid : Prop := scaleIntsUptoRow.holds Try.pinned (OpenSpec.upto scaleIntsSpec)

/-- 'tidepolelaw25.ScaleFloats', WHERE WHAT IT READS IS OF BULK AT MOST 1048576: true; the input reads as it did. -/
def scaleFloatsUptoRow : OpenClaim := { program := "ytbihgmehjhlojaa", sum := "a16330553e886ab391741eeddb2d818c460abd245ed5ae0c48aadebc490fce8a", func := "tidepole/tidepolelaw25.ScaleFloats", spec := "scaleFloats", inPlace := ["math/bits.Add64", "math.Float64bits", "math.Float64frombits"], unfollowed := true, recurses := true, apart := false, narrowed := true }
def ScaleFloatsUptoSaid : Prop := scaleFloatsUptoRow.holds Try.pinned (OpenSpec.upto scaleFloatsSpec)

/-- 'tidepolelaw25.ScaleKeeps', WHERE WHAT IT READS IS OF BULK AT MOST 1048576: true; the input reads as it did. -/
def scaleKeepsUptoRow : OpenClaim := { program := "ytbihgmehjhlojaa", sum := "a16330553e886ab391741eeddb2d818c460abd245ed5ae0c48aadebc490fce8a", func := "tidepole/tidepolelaw25.ScaleKeeps", spec := "scaleKeeps", inPlace := ["math/bits.Add64", "math.Float64bits", "math.Float64frombits"], unfollowed := true, recurses := true, apart := false, narrowed := true }
def ScaleKeepsUptoSaid : Prop := scaleKeepsUptoRow.holds Try.pinned (OpenSpec.upto scaleKeepsSpec)

/-- 'tidepolelaw25.ScaleFits', WHERE WHAT IT READS IS OF BULK AT MOST 1048576: true; the input reads as it did. -/
def scaleFitsUptoRow : OpenClaim := { program := "ytbihgmehjhlojaa", sum := "a16330553e886ab391741eeddb2d818c460abd245ed5ae0c48aadebc490fce8a", func := "tidepole/tidepolelaw25.ScaleFits", spec := "scaleFits", inPlace := ["math/bits.Add64", "math.Float64bits", "math.Float64frombits"], unfollowed := true, recurses := true, apart := false, narrowed := true }
def ScaleFitsUptoSaid : Prop := scaleFitsUptoRow.holds Try.pinned (OpenSpec.upto scaleFitsSpec)

/-- 'tidepolelaw25.ScaleTwice', WHERE WHAT IT READS IS OF BULK AT MOST 1048576: true; the input reads as it did. -/
def scaleTwiceUptoRow : OpenClaim := { program := "ytbihgmehjhlojaa", sum := "a16330553e886ab391741eeddb2d818c460abd245ed5ae0c48aadebc490fce8a", func := "tidepole/tidepolelaw25.ScaleTwice", spec := "scaleTwice", inPlace := ["math/bits.Add64", "math.Float64bits", "math.Float64frombits"], unfollowed := true, recurses := true, apart := false, narrowed := true }
def ScaleTwiceUptoSaid : Prop := scaleTwiceUptoRow.holds Try.pinned (OpenSpec.upto scaleTwiceSpec)

/-- 'tidepolelaw25.ScaleResets', WHERE WHAT IT READS IS OF BULK AT MOST 1048576: true; the input reads as it did. -/
def scaleResetsUptoRow : OpenClaim := { program := "ytbihgmehjhlojaa", sum := "a16330553e886ab391741eeddb2d818c460abd245ed5ae0c48aadebc490fce8a", func := "tidepole/tidepolelaw25.ScaleResets", spec := "scaleResets", inPlace := ["math/bits.Add64", "math.Float64bits", "math.Float64frombits"], unfollowed := true, recurses := true, apart := false, narrowed := true }
def ScaleResetsUptoSaid : Prop := scaleResetsUptoRow.holds Try.pinned (OpenSpec.upto scaleResetsSpec)

/-- 'tidepolelaw29.RankScales', WHERE WHAT IT READS IS OF BULK AT MOST 1048576: true; the input reads as it did. -/
def rankScalesUptoRow : OpenClaim := { program := "ytbihgmehjhlojaa", sum := "a16330553e886ab391741eeddb2d818c460abd245ed5ae0c48aadebc490fce8a", func := "tidepole/tidepolelaw29.RankScales", spec := "rankScales", inPlace := ["math/bits.Add64"], unfollowed := true, recurses := true, named := ["math/bits.divideError", "math/bits.overflowError"], apart := false, narrowed := true }
def RankScalesUptoSaid : Prop := rankScalesUptoRow.holds Try.pinned (OpenSpec.upto rankScalesSpec)

/-- 'tidepolelaw27.AddSums', WHERE WHAT IT READS IS OF BULK AT MOST 1048576: true; the input reads as it did. -/
def addSumsUptoRow : OpenClaim := { program := "ytbihgmehjhlojaa", sum := "a16330553e886ab391741eeddb2d818c460abd245ed5ae0c48aadebc490fce8a", func := "tidepole/tidepolelaw27.AddSums", spec := "addSums", inPlace := ["math.Float64frombits", "math.Float64bits", "math/bits.Add64", "math/bits.Sub64"], unfollowed := true, recurses := true, apart := false, narrowed := true }
def AddSumsUptoSaid : Prop := addSumsUptoRow.holds Try.pinned (OpenSpec.upto addSumsSpec)

/-- 'tidepolelaw27.AddInts', WHERE WHAT IT READS IS OF BULK AT MOST 1048576: true; the input reads as it did. -/
def addIntsUptoRow : OpenClaim := { program := "ytbihgmehjhlojaa", sum := "a16330553e886ab391741eeddb2d818c460abd245ed5ae0c48aadebc490fce8a", func := "tidepole/tidepolelaw27.AddInts", spec := "addInts", inPlace := ["math/bits.Add64", "math.Float64frombits", "math.Float64bits", "math/bits.Sub64"], unfollowed := true, recurses := true, apart := false, narrowed := true }
def AddIntsUptoSaid : Prop := addIntsUptoRow.holds Try.pinned (OpenSpec.upto addIntsSpec)

/-- 'tidepolelaw27.AddTurns', WHERE WHAT IT READS IS OF BULK AT MOST 1048576: true; the input reads as it did. -/
def addTurnsUptoRow : OpenClaim := { program := "ytbihgmehjhlojaa", sum := "a16330553e886ab391741eeddb2d818c460abd245ed5ae0c48aadebc490fce8a", func := "tidepole/tidepolelaw27.AddTurns", spec := "addTurns", inPlace := ["math/bits.Add64", "math.Float64frombits", "math.Float64bits", "math/bits.Sub64"], unfollowed := true, recurses := true, apart := false, narrowed := true }
def AddTurnsUptoSaid : Prop := addTurnsUptoRow.holds Try.pinned (OpenSpec.upto addTurnsSpec)

/-- 'tidepolelaw27.AddJoins', WHERE WHAT IT READS IS OF BULK AT MOST 1048576: true; the input reads as it did. -/
def addJoinsUptoRow : OpenClaim := { program := "ytbihgmehjhlojaa", sum := "a16330553e886ab391741eeddb2d818c460abd245ed5ae0c48aadebc490fce8a", func := "tidepole/tidepolelaw27.AddJoins", spec := "addJoins", inPlace := ["math/bits.Add64", "math.Float64frombits", "math.Float64bits", "math/bits.Sub64"], unfollowed := true, recurses := true, apart := false, narrowed := true }
def AddJoinsUptoSaid : Prop := addJoinsUptoRow.holds Try.pinned (OpenSpec.upto addJoinsSpec)

/-- 'tidepolelaw27.AddLess', WHERE WHAT IT READS IS OF BULK AT MOST 1048576: true; the input reads as it did. -/
def addLessUptoRow : OpenClaim := { program := "ytbihgmehjhlojaa", sum := "a16330553e886ab391741eeddb2d818c460abd245ed5ae0c48aadebc490fce8a", func := "tidepole/tidepolelaw27.AddLess", spec := "addLess", inPlace := ["math/bits.Add64", "math.Float64frombits", "math.Float64bits", "math/bits.Sub64"], unfollowed := true, recurses := true, apart := false, narrowed := true }
def AddLessUptoSaid : Prop := addLessUptoRow.holds Try.pinned (OpenSpec.upto addLessSpec)

/-- 'tidepolelaw27.AddBack', WHERE WHAT IT READS IS OF BULK AT MOST 1048576: true; the input reads as it did. -/
def addBackUptoRow : OpenClaim := { program := "ytbihgmehjhlojaa", sum := "a16330553e886ab391741eeddb2d818c460abd245ed5ae0c48aadebc490fce8a", func := "tidepole/tidepolelaw27.AddBack", spec := "addBack", inPlace := ["math/bits.Add64", "math.Float64frombits", "math.Float64bits", "math/bits.Sub64"], unfollowed := true, recurses := true, apart := false, narrowed := true }
def AddBackUptoSaid : Prop := addBackUptoRow.holds Try.pinned (OpenSpec.upto addBackSpec)

/-- 'tidepolelaw27.AddAll', WHERE WHAT IT READS IS OF BULK AT MOST 1048576: true; the input reads as it did. -/
def addAllUptoRow : OpenClaim := { program := "ytbihgmehjhlojaa", sum := "a16330553e886ab391741eeddb2d818c460abd245ed5ae0c48aadebc490fce8a", func := "tidepole/tidepolelaw27.AddAll", spec := "addAll", inPlace := ["math/bits.Add64", "math.Float64frombits", "math.Float64bits", "math/bits.Sub64"], unfollowed := true, recurses := true, apart := false, narrowed := true }
def AddAllUptoSaid : Prop := addAllUptoRow.holds Try.pinned (OpenSpec.upto addAllSpec)

/-- 'tidepolelaw28.RiseNever', WHERE WHAT IT READS IS OF BULK AT MOST 1048576: true; the input reads as it did. -/
def riseNeverUptoRow : OpenClaim := { program := "ytbihgmehjhlojaa", sum := "a16330553e886ab391741eeddb2d818c460abd245ed5ae0c48aadebc490fce8a", func := "tidepole/tidepolelaw28.RiseNever", spec := "riseNever", inPlace := ["math/bits.Add64", "math.Float64frombits", "math.Float64bits", "math/bits.Sub64"], unfollowed := true, recurses := true, apart := false, narrowed := true }
def RiseNeverUptoSaid : Prop := riseNeverUptoRow.holds Try.pinned (OpenSpec.upto riseNeverSpec)

end Rows
end Go.Proofs.Ytbihgmehjhlojaa
