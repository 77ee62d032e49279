/-
  No cell of these rows narrows 'for every input' (looked for: loops, veiled, ifaces, maps, wideKeys, modest, calm, conditions, laid).
  DERIVED. THE GIVEN ROWS OF THIS SEAT. 12 by the template 'for every input the law returns true; each argument reads behind the call as it read before'; 0 by the template 'total and deterministic' (their statements: YtfnjkmdcmokciaaTotals.lean).
  GIVEN WITH THE SEED: the statements are not yours to turn. If you find one false, say at which input.
  Laid BY PROGRAM, IN A SANDBOX (cutbox-rows.mjs): the forced cells as the released guide's own fill.sh prints them over the translation 829155285d231a01… (all of the seat's roots in one cut). By AI agents, Wed Nov 11 2026. No macro, syntax, notation, axiom, sorry.
-/
import Derived.Test.YtfnjkmdcmokciaaChecked
import GoSem.Claim
import GoSem.ClaimJoined
import GoSem.ClaimMapViews
import Derived.JoinedTies
import Derived.KernelRfl
namespace Go.Proofs.Ytfnjkmdcmokciaa
/- THE CELL 'sum', in the pinned program and in every row, IS THE sha256 OF THE DUMP (.gsa) THAT YtfnjkmdcmokciaaProg.lean LOADS. Nothing in Lean hashes anything: it is a label: what it is worth is what the hold of that sum in a sandbox is worth. -/
noncomputable def Try.pinned : Pinned := { name := "ytfnjkmdcmokciaa", sum := "829155285d231a015316325c83156a76f7d1a8dfe7649753b831f6f15f384df9", checked := Try.checked }
namespace Rows
def none {H : Type} : Left H := { results := [], args := [] }

/-- 'straightedgelaw03.ViewMeets': WHATEVER THE INPUT: true; the input reads as it did. -/
def viewMeetsSpec : ChangeSpec := { name := "viewMeets", fn := fun _ => fun
  | [d1, d2] => { results := [.lit (.bool true)], args := [d1, d2] }
  | _ => none }
def viewMeetsRow : OpenClaim := { program := "ytfnjkmdcmokciaa", sum := "829155285d231a015316325c83156a76f7d1a8dfe7649753b831f6f15f384df9", func := "straightedge/straightedgelaw03.ViewMeets", spec := "viewMeets", inPlace := ["math.Float64bits"], apart := false }
def ViewMeetsSaid : Prop := viewMeetsRow.holds Try.pinned (OpenSpec.ofChange viewMeetsSpec)

/-- ITS FALSE NEIGHBOUR: 'it returns false'. Refute it at one input. -/
def viewMeetsWrong : ChangeSpec := { name := "viewMeets", fn := fun _ => fun
  | [d1, d2] => { results := [.lit (.bool false)], args := [d1, d2] }
  | _ => none }
def ViewMeetsWrongFalsely : Prop := viewMeetsRow.holds Try.pinned (OpenSpec.ofChange viewMeetsWrong)

/-- 'straightedgelaw03.ViewSets': WHATEVER THE INPUT: true; the input reads as it did. -/
def viewSetsSpec : ChangeSpec := { name := "viewSets", fn := fun _ => fun
  | [d1, d2, d3, d4] => { results := [.lit (.bool true)], args := [d1, d2, d3, d4] }
  | _ => none }
def viewSetsRow : OpenClaim := { program := "ytfnjkmdcmokciaa", sum := "829155285d231a015316325c83156a76f7d1a8dfe7649753b831f6f15f384df9", func := "straightedge/straightedgelaw03.ViewSets", spec := "viewSets", inPlace := ["math.Float64bits"], apart := false }
def ViewSetsSaid : Prop := viewSetsRow.holds Try.pinned (OpenSpec.ofChange viewSetsSpec)

/-- ITS FALSE NEIGHBOUR: 'it returns false'. Refute it at one input. -/
def viewSetsWrong : ChangeSpec := { name := "viewSets", fn := fun _ => fun
  | [d1, d2, d3, d4] => { results := [.lit (.bool false)], args := [d1, d2, d3, d4] }
  | _ => none }
def ViewSetsWrongFalsely : Prop := viewSetsRow.holds Try.pinned (OpenSpec.ofChange viewSetsWrong)

/-- 'straightedgelaw10.NormsTell': WHATEVER THE INPUT: true; the input reads as it did. -/
def normsTellSpec : ChangeSpec := { name := "normsTell", fn := fun _ => fun
  | [d] => { results := [.lit (.bool true)], args := [d] }
  | _ => none }
def normsTellRow : OpenClaim := { program := "ytfnjkmdcmokciaa", sum := "829155285d231a015316325c83156a76f7d1a8dfe7649753b831f6f15f384df9", func := "straightedge/straightedgelaw10.NormsTell", spec := "normsTell", inPlace := ["math.Float64bits", "math.Float64frombits"], unfollowed := true, recurses := true, apart := false }
def NormsTellSaid : Prop := normsTellRow.holds Try.pinned (OpenSpec.ofChange normsTellSpec)

/-- ITS FALSE NEIGHBOUR: 'it returns false'. Refute it at one input. -/
def normsTellWrong : ChangeSpec := { name := "normsTell", fn := fun _ => fun
  | [d] => { results := [.lit (.bool false)], args := [d] }
  | _ => none }
def NormsTellWrongFalsely : Prop := normsTellRow.holds Try.pinned (OpenSpec.ofChange normsTellWrong)

/-- 'straightedgelaw10.NormsTurn': WHATEVER THE INPUT: true; the input reads as it did. -/
def normsTurnSpec : ChangeSpec := { name := "normsTurn", fn := fun _ => fun
  | [d] => { results := [.lit (.bool true)], args := [d] }
  | _ => none }
def normsTurnRow : OpenClaim := { program := "ytfnjkmdcmokciaa", sum := "829155285d231a015316325c83156a76f7d1a8dfe7649753b831f6f15f384df9", func := "straightedge/straightedgelaw10.NormsTurn", spec := "normsTurn", inPlace := ["math.Float64bits", "math.Float64frombits"], unfollowed := true, recurses := true, apart := false }
def NormsTurnSaid : Prop := normsTurnRow.holds Try.pinned (OpenSpec.ofChange normsTurnSpec)

/-- ITS FALSE NEIGHBOUR: 'it returns false'. Refute it at one input. -/
def normsTurnWrong : ChangeSpec := { name := "normsTurn", fn := fun _ => fun
  | [d] => { results := [.lit (.bool false)], args := [d] }
  | _ => none }
def NormsTurnWrongFalsely : Prop := normsTurnRow.holds Try.pinned (OpenSpec.ofChange normsTurnWrong)

/-- 'straightedgelaw10.NormsVectors': WHATEVER THE INPUT: true; the input reads as it did. -/
def normsVectorsSpec : ChangeSpec := { name := "normsVectors", fn := fun _ => fun
  | [d] => { results := [.lit (.bool true)], args := [d] }
  | _ => none }
def normsVectorsRow : OpenClaim := { program := "ytfnjkmdcmokciaa", sum := "829155285d231a015316325c83156a76f7d1a8dfe7649753b831f6f15f384df9", func := "straightedge/straightedgelaw10.NormsVectors", spec := "normsVectors", inPlace := ["math.Float64bits", "math.Float64frombits"], unfollowed := true, recurses := true, apart := false }
def NormsVectorsSaid : Prop := normsVectorsRow.holds Try.pinned (OpenSpec.ofChange normsVectorsSpec)

/-- ITS FALSE NEIGHBOUR: 'it returns false'. Refute it at one input. -/
def normsVectorsWrong : ChangeSpec := { name := "normsVectors", fn := fun _ => fun
  | [d] => { results := [.lit (.bool false)], args := [d] }
  | _ => none }
def NormsVectorsWrongFalsely : Prop := normsVectorsRow.holds Try.pinned (OpenSpec.ofChange normsVectorsWrong)

/-- 'straightedgelaw16.LuClose': WHATEVER THE INPUT: true; the input reads as it did. -/
def luCloseSpec : ChangeSpec := { name := "luClose", fn := fun _ => fun
  | [d] => { results := [.lit (.bool true)], args := [d] }
  | _ => none }
def luCloseRow : OpenClaim := { program := "ytfnjkmdcmokciaa", sum := "829155285d231a015316325c83156a76f7d1a8dfe7649753b831f6f15f384df9", func := "straightedge/straightedgelaw16.LuClose", spec := "luClose", inPlace := ["math.Float64bits", "math.Float64frombits"], unfollowed := true, recurses := true, apart := false }
def LuCloseSaid : Prop := luCloseRow.holds Try.pinned (OpenSpec.ofChange luCloseSpec)

/-- ITS FALSE NEIGHBOUR: 'it returns false'. Refute it at one input. -/
def luCloseWrong : ChangeSpec := { name := "luClose", fn := fun _ => fun
  | [d] => { results := [.lit (.bool false)], args := [d] }
  | _ => none }
def LuCloseWrongFalsely : Prop := luCloseRow.holds Try.pinned (OpenSpec.ofChange luCloseWrong)

/-- 'straightedgelaw16.LuFactors': WHATEVER THE INPUT: true; the input reads as it did. -/
def luFactorsSpec : ChangeSpec := { name := "luFactors", fn := fun _ => fun
  | [d] => { results := [.lit (.bool true)], args := [d] }
  | _ => none }
def luFactorsRow : OpenClaim := { program := "ytfnjkmdcmokciaa", sum := "829155285d231a015316325c83156a76f7d1a8dfe7649753b831f6f15f384df9", func := "straightedge/straightedgelaw16.LuFactors", spec := "luFactors", inPlace := ["math.Float64bits", "math.Float64frombits"], unfollowed := true, recurses := true, apart := false }
def LuFactorsSaid : Prop := luFactorsRow.holds Try.pinned (OpenSpec.ofChange luFactorsSpec)

/-- ITS FALSE NEIGHBOUR: 'it returns false'. Refute it at one input. -/
def luFactorsWrong : ChangeSpec := { name := "luFactors", fn := fun _ => fun
  | [d] => { results := [.lit (.bool false)], args := [d] }
  | _ => none }
def LuFactorsWrongFalsely : Prop := luFactorsRow.holds Try.pinned (OpenSpec.ofChange luFactorsWrong)

/-- 'straightedgelaw19.GrowthNear': WHATEVER THE INPUT: true; the input reads as it did. -/
def growthNearSpec : ChangeSpec := { name := "growthNear", fn := fun _ => fun
  | [d] => { results := [.lit (.bool true)], args := [d] }
  | _ => none }
def growthNearRow : OpenClaim := { program := "ytfnjkmdcmokciaa", sum := "829155285d231a015316325c83156a76f7d1a8dfe7649753b831f6f15f384df9", func := "straightedge/straightedgelaw19.GrowthNear", spec := "growthNear", inPlace := ["math.Float64bits", "math.Float64frombits"], unfollowed := true, recurses := true, apart := false }
def GrowthNearSaid : Prop := growthNearRow.holds Try.pinned (OpenSpec.ofChange growthNearSpec)

/-- ITS FALSE NEIGHBOUR: 'it returns false'. Refute it at one input. -/
def growthNearWrong : ChangeSpec := { name := "growthNear", fn := fun _ => fun
  | [d] => { results := [.lit (.bool false)], args := [d] }
  | _ => none }
def GrowthNearWrongFalsely : Prop := growthNearRow.holds Try.pinned (OpenSpec.ofChange growthNearWrong)

/-- 'straightedgelaw16.LuParts': WHATEVER THE INPUT: true; the input reads as it did. -/
def luPartsSpec : ChangeSpec := { name := "luParts", fn := fun _ => fun
  | [d] => { results := [.lit (.bool true)], args := [d] }
  | _ => none }
def luPartsRow : OpenClaim := { program := "ytfnjkmdcmokciaa", sum := "829155285d231a015316325c83156a76f7d1a8dfe7649753b831f6f15f384df9", func := "straightedge/straightedgelaw16.LuParts", spec := "luParts", inPlace := ["math.Float64bits", "math.Float64frombits"], unfollowed := true, recurses := true, apart := false }
def LuPartsSaid : Prop := luPartsRow.holds Try.pinned (OpenSpec.ofChange luPartsSpec)

/-- ITS FALSE NEIGHBOUR: 'it returns false'. Refute it at one input. -/
def luPartsWrong : ChangeSpec := { name := "luParts", fn := fun _ => fun
  | [d] => { results := [.lit (.bool false)], args := [d] }
  | _ => none }
def LuPartsWrongFalsely : Prop := luPartsRow.holds Try.pinned (OpenSpec.ofChange luPartsWrong)

/-- 'straightedgelaw19.GrowthTells': WHATEVER THE INPUT: true; the input reads as it did. -/
def growthTellsSpec : ChangeSpec := { name := "growthTells", fn := fun _ => fun
  | [d1, d2] => { results := [.lit (.bool true)], args := [d1, d2] }
  | _ => none }
def growthTellsRow : OpenClaim := { program := "ytfnjkmdcmokciaa", sum := "829155285d231a015316325c83156a76f7d1a8dfe7649753b831f6f15f384df9", func := "straightedge/straightedgelaw19.GrowthTells", spec := "growthTells", inPlace := ["math.Float64bits", "math.Float64frombits"], unfollowed := true, recurses := true, apart := false }
def GrowthTellsSaid : Prop := growthTellsRow.holds Try.pinned (OpenSpec.ofChange growthTellsSpec)

/-- ITS FALSE NEIGHBOUR: 'it returns false'. Refute it at one input. -/
def growthTellsWrong : ChangeSpec := { name := "growthTells", fn := fun _ => fun
  | [d1, d2] => { results := [.lit (.bool false)], args := [d1, d2] }
  | _ => none }
def GrowthTellsWrongFalsely : Prop := growthTellsRow.holds Try.pinned (OpenSpec.ofChange growthTellsWrong)

/-- 'straightedgelaw18.SolveVectors': WHATEVER THE INPUT: true; the input reads as it did. -/
def solveVectorsSpec : ChangeSpec := { name := "solveVectors", fn := fun _ => fun
  | [d1, d2, d3, d4] => { results := [.lit (.bool true)], args := [d1, d2, d3, d4] }
  | _ => none }
def solveVectorsRow : OpenClaim := { program := "ytfnjkmdcmokciaa", sum := "829155285d231a015316325c83156a76f7d1a8dfe7649753b831f6f15f384df9", func := "straightedge/straightedgelaw18.SolveVectors", spec := "solveVectors", inPlace := ["math.Float64bits", "math.Float64frombits"], unfollowed := true, recurses := true, apart := false }
def SolveVectorsSaid : Prop := solveVectorsRow.holds Try.pinned (OpenSpec.ofChange solveVectorsSpec)

/-- ITS FALSE NEIGHBOUR: 'it returns false'. Refute it at one input. -/
def solveVectorsWrong : ChangeSpec := { name := "solveVectors", fn := fun _ => fun
  | [d1, d2, d3, d4] => { results := [.lit (.bool false)], args := [d1, d2, d3, d4] }
  | _ => none }
def SolveVectorsWrongFalsely : Prop := solveVectorsRow.holds Try.pinned (OpenSpec.ofChange solveVectorsWrong)

/-- 'straightedgelaw12.PackBlocks': WHATEVER THE INPUT: true; the input reads as it did. -/
def packBlocksSpec : ChangeSpec := { name := "packBlocks", fn := fun _ => fun
  | [d1, d2, d3] => { results := [.lit (.bool true)], args := [d1, d2, d3] }
  | _ => none }
def packBlocksRow : OpenClaim := { program := "ytfnjkmdcmokciaa", sum := "829155285d231a015316325c83156a76f7d1a8dfe7649753b831f6f15f384df9", func := "straightedge/straightedgelaw12.PackBlocks", spec := "packBlocks", recurses := true, apart := false }
def PackBlocksSaid : Prop := packBlocksRow.holds Try.pinned (OpenSpec.ofChange packBlocksSpec)

/-- ITS FALSE NEIGHBOUR: 'it returns false'. Refute it at one input. -/
def packBlocksWrong : ChangeSpec := { name := "packBlocks", fn := fun _ => fun
  | [d1, d2, d3] => { results := [.lit (.bool false)], args := [d1, d2, d3] }
  | _ => none }
def PackBlocksWrongFalsely : Prop := packBlocksRow.holds Try.pinned (OpenSpec.ofChange packBlocksWrong)

/- THE SECOND FORM. 'bulk': how many values and letters a reading holds, each counted each time it is reached (what is shared counts as often as it is met; a slice's spare places count too). A statement '..UptoSaid' is the law's where the arguments, and the package variables that the reading takes, are together of bulk at most 1048576: NARROWER than '..Said'. Prove '..Said' where nothing that the law and all that it calls make is longer than what came in: it says more and counts as full. Else prove '..UptoSaid'. A law counts once. -/
mutual
def uptoBulk {H : Type} : DataW H → Nat
  | .lit (.string bytes) => bytes.length + 1
  | .lit _ => 1
  | .nil => 1
  | .ptr d => uptoBulk d + 1
  | .slice elems spare => uptoBulkAll elems + uptoBulkAll spare + 1
  | .agg parts => uptoBulkAll parts + 1
  | .iface _ d => uptoBulk d + 1
  | .map entries => uptoBulkEntries entries + 1
  | .held _ => 1
def uptoBulkAll {H : Type} : List (DataW H) → Nat
  | [] => 0
  | d :: r => uptoBulk d + uptoBulkAll r
def uptoBulkEntries {H : Type} : List (Lit × DataW H) → Nat
  | [] => 0
  | x :: r => uptoBulkEntry x + uptoBulkEntries r
def uptoBulkEntry {H : Type} : Lit × DataW H → Nat
  | (.string bytes, d) => bytes.length + uptoBulk d + 1
  | (_, d) => uptoBulk d + 1
 end
def uptoSmall : (H : Type) → List (DataW H) → Bool := fun _ ds => decide (uptoBulkAll ds ≤ 1048576)
def OpenSpec.upto (s : _root_.Go.ChangeSpec) : _root_.Go.OpenSpec := { _root_.Go.OpenSpec.ofChange s with cond := some uptoSmall }

/-- 'straightedgelaw03.ViewMeets', WHERE WHAT IT READS IS OF BULK AT MOST 1048576: true; the input reads as it did. -/
def viewMeetsUptoRow : OpenClaim := { program := "ytfnjkmdcmokciaa", sum := "829155285d231a015316325c83156a76f7d1a8dfe7649753b831f6f15f384df9", func := "straightedge/straightedgelaw03.ViewMeets", spec := "viewMeets", inPlace := ["math.Float64bits"], apart := false, narrowed := true }
def ViewMeetsUptoSaid : Prop := viewMeetsUptoRow.holds Try.pinned (OpenSpec.upto viewMeetsSpec)

/-- 'straightedgelaw03.ViewSets', WHERE WHAT IT READS IS OF BULK AT MOST 1048576: true; the input reads as it did. -/
def viewSetsUptoRow : OpenClaim := { program := "ytfnjkmdcmokciaa", sum := "829155285d231a015316325c83156a76f7d1a8dfe7649753b831f6f15f384df9", func := "straightedge/straightedgelaw03.ViewSets", spec := "viewSets", inPlace := ["math.Float64bits"], apart := false, narrowed := true }
def ViewSetsUptoSaid : Prop := viewSetsUptoRow.holds Try.pinned (OpenSpec.upto viewSetsSpec)

/-- 'straightedgelaw10.NormsTell', WHERE WHAT IT READS IS OF BULK AT MOST 1048576: true; the input reads as it did. -/
def normsTellUptoRow : OpenClaim := { program := "ytfnjkmdcmokciaa", sum := "829155285d231a015316325c83156a76f7d1a8dfe7649753b831f6f15f384df9", func := "straightedge/straightedgelaw10.NormsTell", spec := "normsTell", inPlace := ["math.Float64bits", "math.Float64frombits"], unfollowed := true, recurses := true, apart := false, narrowed := true }
def NormsTellUptoSaid : Prop := normsTellUptoRow.holds Try.pinned (OpenSpec.upto normsTellSpec)

/-- 'straightedgelaw10.NormsTurn', WHERE WHAT IT READS IS OF BULK AT MOST 1048576: true; the input reads as it did. -/
def normsTurnUptoRow : OpenClaim := { program := "ytfnjkmdcmokciaa", sum := "829155285d231a015316325c83156a76f7d1a8dfe7649753b831f6f15f384df9", func := "straightedge/straightedgelaw10.NormsTurn", spec := "normsTurn", inPlace := ["math.Float64bits", "math.Float64frombits"], unfollowed := true, recurses := true, apart := false, narrowed := true }
def NormsTurnUptoSaid : Prop := normsTurnUptoRow.holds Try.pinned (OpenSpec.upto normsTurnSpec)

/-- 'straightedgelaw10.NormsVectors', WHERE WHAT IT READS IS OF BULK AT MOST 1048576: true; the input reads as it did. -/
def normsVectorsUptoRow : OpenClaim := { program := "ytfnjkmdcmokciaa", sum := "829155285d231a015316325c83156a76f7d1a8dfe7649753b831f6f15f384df9", func := "straightedge/straightedgelaw10.NormsVectors", spec := "normsVectors", inPlace := ["math.Float64bits", "math.Float64frombits"], unfollowed := true, recurses := true, apart := false, narrowed := true }
def NormsVectorsUptoSaid : Prop := normsVectorsUptoRow.holds Try.pinned (OpenSpec.upto normsVectorsSpec)

/-- 'straightedgelaw16.LuClose', WHERE WHAT IT READS IS OF BULK AT MOST 1048576: true; the input reads as it did. -/
def luCloseUptoRow : OpenClaim := { program := "ytfnjkmdcmokciaa", sum := "829155285d231a015316325c83156a76f7d1a8dfe7649753b831f6f15f384df9", func := "straightedge/straightedgelaw16.LuClose", spec := "luClose", inPlace := ["math.Float64bits", "math.Float64frombits"], unfollowed := true, recurses := true, apart := false, narrowed := true }
def LuCloseUptoSaid : Prop := luCloseUptoRow.holds Try.pinned (OpenSpec.upto luCloseSpec)

/-- 'straightedgelaw16.LuFactors', WHERE WHAT IT READS IS OF BULK AT MOST 1048576: true; the input reads as it did. -/
def luFactorsUptoRow : OpenClaim := { program := "ytfnjkmdcmokciaa", sum := "829155285d231a015316325c83156a76f7d1a8dfe7649753b831f6f15f384df9", func := "straightedge/straightedgelaw16.LuFactors", spec := "luFactors", inPlace := ["math.Float64bits", "math.Float64frombits"], unfollowed := true, recurses := true, apart := false, narrowed := true }
def LuFactorsUptoSaid : Prop := luFactorsUptoRow.holds Try.pinned (OpenSpec.upto luFactorsSpec)

/-- 'straightedgelaw19.GrowthNear', WHERE WHAT IT READS IS OF BULK AT MOST 1048576: true; the input reads as it did. -/
def growthNearUptoRow : OpenClaim := { program := "ytfnjkmdcmokciaa", sum := "829155285d231a015316325c83156a76f7d1a8dfe7649753b831f6f15f384df9", func := "straightedge/straightedgelaw19.GrowthNear", spec := "growthNear", inPlace := ["math.Float64bits", "math.Float64frombits"], unfollowed := true, recurses := true, apart := false, narrowed := true }
def GrowthNearUptoSaid : Prop := growthNearUptoRow.holds Try.pinned (OpenSpec.upto growthNearSpec)

/-- 'straightedgelaw16.LuParts', WHERE WHAT IT READS IS OF BULK AT MOST 1048576: true; the input reads as it did. -/
def luPartsUptoRow : OpenClaim := { program := "ytfnjkmdcmokciaa", sum := "829155285d231a015316325c83156a76f7d1a8dfe7649753b831f6f15f384df9", func := "straightedge/straightedgelaw16.LuParts", spec := "luParts", inPlace := ["math.Float64bits", "math.Float64frombits"], unfollowed := true, recurses := true, apart := false, narrowed := true }
def LuPartsUptoSaid : Prop := luPartsUptoRow.holds Try.pinned (OpenSpec.upto luPartsSpec)

/-- 'straightedgelaw19.GrowthTells', WHERE WHAT IT READS IS OF BULK AT MOST 1048576: true; the input reads as it did. -/
def growthTellsUptoRow : OpenClaim := { program := "ytfnjkmdcmokciaa", sum := "829155285d231a015316325c83156a76f7d1a8dfe7649753b831f6f15f384df9", func := "straightedge/straightedgelaw19.GrowthTells", spec := "growthTells", inPlace := ["math.Float64bits", "math.Float64frombits"], unfollowed := true, recurses := true, apart := false, narrowed := true }
def GrowthTellsUptoSaid : Prop := growthTellsUptoRow.holds Try.pinned (OpenSpec.upto growthTellsSpec)

/-- 'straightedgelaw18.SolveVectors', WHERE WHAT IT READS IS OF BULK AT MOST 1048576: true; the input reads as it did. -/
def solveVectorsUptoRow : OpenClaim := { program := "ytfnjkmdcmokciaa", sum := "829155285d231a015316325c83156a76f7d1a8dfe7649753b831f6f15f384df9", func := "straightedge/straightedgelaw18.SolveVectors", spec := "solveVectors", inPlace := ["math.Float64bits", "math.Float64frombits"], unfollowed := true, recurses := true, apart := false, narrowed := true }
def SolveVectorsUptoSaid : Prop := solveVectorsUptoRow.holds Try.pinned (OpenSpec.upto solveVectorsSpec)

/-- 'straightedgelaw12.PackBlocks', WHERE WHAT IT READS IS OF BULK AT MOST 1048576: true; the input reads as it did. -/
def packBlocksUptoRow : OpenClaim := { program := "ytfnjkmdcmokciaa", sum := "829155285d231a015316325c83156a76f7d1a8dfe7649753b831f6f15f384df9", func := "straightedge/straightedgelaw12.PackBlocks", spec := "packBlocks", recurses := true, apart := false, narrowed := true }
def PackBlocksUptoSaid : Prop := packBlocksUptoRow.holds Try.pinned (OpenSpec.upto packBlocksSpec)

end Rows
end Go.Proofs.Ytfnjkmdcmokciaa
