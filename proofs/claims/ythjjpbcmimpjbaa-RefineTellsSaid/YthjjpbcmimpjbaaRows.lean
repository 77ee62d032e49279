/-
  No cell of these rows narrows 'for every input' (looked for: loops, veiled, ifaces, maps, wideKeys, modest, calm, conditions, laid).
  DERIVED. THE GIVEN ROWS OF THIS SEAT. 4 by the template 'for every input the law returns true; each argument reads behind the call as it read before'; 0 by the template 'total and deterministic' (their statements: YthjjpbcmimpjbaaTotals.lean).
  GIVEN WITH THE SEED: the statements are not yours to turn. If you find one false, say at which input.
  Laid BY PROGRAM, IN A SANDBOX (cutbox-rows.mjs): the forced cells as the released guide's own fill.sh prints them over the translation bbd7c6d02c1f2c73… (all of the seat's roots in one cut). By AI agents, Wed Nov 11 2026. No macro, syntax, notation, axiom, sorry.
-/
import Derived.Test.YthjjpbcmimpjbaaChecked
import GoSem.Claim
import GoSem.ClaimJoined
import GoSem.ClaimMapViews
import Derived.JoinedTies
import Derived.KernelRfl
namespace Go.Proofs.Ythjjpbcmimpjbaa
/- THE CELL 'sum', in the pinned program and in every row, IS THE sha256 OF THE DUMP (.gsa) THAT YthjjpbcmimpjbaaProg.lean LOADS. Nothing in Lean hashes anything: it is a label: what it is worth is what the hold of that sum in a sandbox is worth. -/
noncomputable def Try.pinned : Pinned := { name := "ythjjpbcmimpjbaa", sum := "bbd7c6d02c1f2c73a9c6aa24720a9dee603cb374b9c0119cfe375ffe81ee1625", checked := Try.checked }
namespace Rows
def none {H : Type} : Left H := { results := [], args := [] }

/-- 'straightedgelaw23.RefineSolves': WHATEVER THE INPUT: true; the input reads as it did. -/
def refineSolvesSpec : ChangeSpec := { name := "refineSolves", fn := fun _ => fun
  | [d1, d2, d3, d4, d5] => { results := [.lit (.bool true)], args := [d1, d2, d3, d4, d5] }
  | _ => none }
def refineSolvesRow : OpenClaim := { program := "ythjjpbcmimpjbaa", sum := "bbd7c6d02c1f2c73a9c6aa24720a9dee603cb374b9c0119cfe375ffe81ee1625", func := "straightedge/straightedgelaw23.RefineSolves", spec := "refineSolves", inPlace := ["math.Float64bits", "math.Float64frombits"], unfollowed := true, recurses := true, apart := false }
def RefineSolvesSaid : Prop := refineSolvesRow.holds Try.pinned (OpenSpec.ofChange refineSolvesSpec)

/-- ITS FALSE NEIGHBOUR: 'it returns false'. Refute it at one input. -/
def refineSolvesWrong : ChangeSpec := { name := "refineSolves", fn := fun _ => fun
  | [d1, d2, d3, d4, d5] => { results := [.lit (.bool false)], args := [d1, d2, d3, d4, d5] }
  | _ => none }
def RefineSolvesWrongFalsely : Prop := refineSolvesRow.holds Try.pinned (OpenSpec.ofChange refineSolvesWrong)

/-- 'straightedgelaw23.RefineTells': WHATEVER THE INPUT: true; the input reads as it did. -/
def refineTellsSpec : ChangeSpec := { name := "refineTells", fn := fun _ => fun
  | [d1, d2, d3, d4, d5, d6, d7] => { results := [.lit (.bool true)], args := [d1, d2, d3, d4, d5, d6, d7] }
  | _ => none }
def refineTellsRow : OpenClaim := { program := "ythjjpbcmimpjbaa", sum := "bbd7c6d02c1f2c73a9c6aa24720a9dee603cb374b9c0119cfe375ffe81ee1625", func := "straightedge/straightedgelaw23.RefineTells", spec := "refineTells", inPlace := ["math.Float64bits", "math.Float64frombits"], unfollowed := true, recurses := true, apart := false }
def RefineTellsSaid : Prop := refineTellsRow.holds Try.pinned (OpenSpec.ofChange refineTellsSpec)

/-- ITS FALSE NEIGHBOUR: 'it returns false'. Refute it at one input. -/
def refineTellsWrong : ChangeSpec := { name := "refineTells", fn := fun _ => fun
  | [d1, d2, d3, d4, d5, d6, d7] => { results := [.lit (.bool false)], args := [d1, d2, d3, d4, d5, d6, d7] }
  | _ => none }
def RefineTellsWrongFalsely : Prop := refineTellsRow.holds Try.pinned (OpenSpec.ofChange refineTellsWrong)

/-- 'straightedgelaw23.RefineBetter': WHATEVER THE INPUT: true; the input reads as it did. -/
def refineBetterSpec : ChangeSpec := { name := "refineBetter", fn := fun _ => fun
  | [d1, d2, d3, d4, d5, d6, d7] => { results := [.lit (.bool true)], args := [d1, d2, d3, d4, d5, d6, d7] }
  | _ => none }
def refineBetterRow : OpenClaim := { program := "ythjjpbcmimpjbaa", sum := "bbd7c6d02c1f2c73a9c6aa24720a9dee603cb374b9c0119cfe375ffe81ee1625", func := "straightedge/straightedgelaw23.RefineBetter", spec := "refineBetter", inPlace := ["math.Float64bits", "math.Float64frombits"], unfollowed := true, recurses := true, apart := false }
def RefineBetterSaid : Prop := refineBetterRow.holds Try.pinned (OpenSpec.ofChange refineBetterSpec)

/-- ITS FALSE NEIGHBOUR: 'it returns false'. Refute it at one input. -/
def refineBetterWrong : ChangeSpec := { name := "refineBetter", fn := fun _ => fun
  | [d1, d2, d3, d4, d5, d6, d7] => { results := [.lit (.bool false)], args := [d1, d2, d3, d4, d5, d6, d7] }
  | _ => none }
def RefineBetterWrongFalsely : Prop := refineBetterRow.holds Try.pinned (OpenSpec.ofChange refineBetterWrong)

/-- 'straightedgelaw21.RcondScaled': WHATEVER THE INPUT: true; the input reads as it did. -/
def rcondScaledSpec : ChangeSpec := { name := "rcondScaled", fn := fun _ => fun
  | [d1, d2, d3] => { results := [.lit (.bool true)], args := [d1, d2, d3] }
  | _ => none }
def rcondScaledRow : OpenClaim := { program := "ythjjpbcmimpjbaa", sum := "bbd7c6d02c1f2c73a9c6aa24720a9dee603cb374b9c0119cfe375ffe81ee1625", func := "straightedge/straightedgelaw21.RcondScaled", spec := "rcondScaled", inPlace := ["math.Float64bits", "math.Float64frombits"], unfollowed := true, recurses := true, apart := false }
def RcondScaledSaid : Prop := rcondScaledRow.holds Try.pinned (OpenSpec.ofChange rcondScaledSpec)

/-- ITS FALSE NEIGHBOUR: 'it returns false'. Refute it at one input. -/
def rcondScaledWrong : ChangeSpec := { name := "rcondScaled", fn := fun _ => fun
  | [d1, d2, d3] => { results := [.lit (.bool false)], args := [d1, d2, d3] }
  | _ => none }
def RcondScaledWrongFalsely : Prop := rcondScaledRow.holds Try.pinned (OpenSpec.ofChange rcondScaledWrong)

/- THE SECOND FORM. 'bulk': how many values and letters a reading holds, each counted each time it is reached (what is shared counts as often as it is met; a slice's spare places count too). A statement '..UptoSaid' is the law's where the arguments, and the package variables that the reading takes, are together of bulk at most 1048576: NARROWER than '..Said'. Prove '..Said' where nothing that the law and all that it calls make is longer than what came in: it says more and counts as full. Else prove '..UptoSaid'. A law counts once. -/
mutual
def uptoBulk {H : Type} : DataW H → Nat
  | .lit (.string bytes) => bytes.length + 1
  | .lit _ => 1
  | .nil => 1
  | .ptr d => uptoBulk d + 1
  | .slice elems spare => uptoBulkAll elems + uptoBulkAll spare + 1
  | .agg parts => uptoBulkAll parts + 1
  | .iface _ d => uptoBulk d + 1
  | .map entries => uptoBulkEntries entries + 1
  | .held _ => 1
def uptoBulkAll {H : Type} : List (DataW H) → Nat
  | [] => 0
  | d :: r => uptoBulk d + uptoBulkAll r
def uptoBulkEntries {H : Type} : List (Lit × DataW H) → Nat
  | [] => 0
  | x :: r => uptoBulkEntry x + uptoBulkEntries r
def uptoBulkEntry {H : Type} : Lit × DataW H → Nat
  | (.string bytes, d) => bytes.length + uptoBulk d + 1
  | (_, d) => uptoBulk d + 1
 end
def uptoSmall : (H : Type) → List (DataW H) → Bool := fun _ ds => decide (uptoBulkAll ds ≤ 1048576)
def OpenSpec.upto (s : _root_.Go.ChangeSpec) : _root_.Go.OpenSpec := { _root_.Go.OpenSpec.ofChange s with cond := some uptoSmall }

/-- 'straightedgelaw23.RefineSolves', WHERE WHAT IT READS IS OF BULK AT MOST 1048576: true; the input reads as it did. -/
def refineSolvesUptoRow : OpenClaim := { program := "ythjjpbcmimpjbaa", sum := "bbd7c6d02c1f2c73a9c6aa24720a9dee603cb374b9c0119cfe375ffe81ee1625", func := "straightedge/straightedgelaw23.RefineSolves", spec := "refineSolves", inPlace := ["math.Float64bits", "math.Float64frombits"], unfollowed := true, recurses := true, apart := false, narrowed := true }
def RefineSolvesUptoSaid : Prop := refineSolvesUptoRow.holds Try.pinned (OpenSpec.upto refineSolvesSpec)

/-- 'straightedgelaw23.RefineTells', WHERE WHAT IT READS IS OF BULK AT MOST 1048576: true; the input reads as it did. -/
def refineTellsUptoRow : OpenClaim := { program := "ythjjpbcmimpjbaa", sum := "bbd7c6d02c1f2c73a9c6aa24720a9dee603cb374b9c0119cfe375ffe81ee1625", func := "straightedge/straightedgelaw23.RefineTells", spec := "refineTells", inPlace := ["math.Float64bits", "math.Float64frombits"], unfollowed := true, recurses := true, apart := false, narrowed := true }
def RefineTellsUptoSaid : Prop := refineTellsUptoRow.holds Try.pinned (OpenSpec.upto refineTellsSpec)

/-- 'straightedgelaw23.RefineBetter', WHERE WHAT IT READS IS OF BULK AT MOST 1048576: true; the input reads as it did. -/
def refineBetterUptoRow : OpenClaim := { program := "ythjjpbcmimpjbaa", sum := "bbd7c6d02c1f2c73a9c6aa24720a9dee603cb374b9c0119cfe375ffe81ee1625", func := "straightedge/straightedgelaw23.RefineBetter", spec := "refineBetter", inPlace := ["math.Float64bits", "math.Float64frombits"], unfollowed := true, recurses := true, apart := false, narrowed := true }
def RefineBetterUptoSaid : Prop := refineBetterUptoRow.holds Try.pinned (OpenSpec.upto refineBetterSpec)

/-- 'straightedgelaw21.RcondScaled', WHERE WHAT IT READS IS OF BULK AT MOST 1048576: true; the input reads as it did. -/
def rcondScaledUptoRow : OpenClaim := { program := "ythjjpbcmimpjbaa", sum := "bbd7c6d02c1f2c73a9c6aa24720a9dee603cb374b9c0119cfe375ffe81ee1625", func := "straightedge/straightedgelaw21.RcondScaled", spec := "rcondScaled", inPlace := ["math.Float64bits", "math.Float64frombits"], unfollowed := true, recurses := true, apart := false, narrowed := true }
def RcondScaledUptoSaid : Prop := rcondScaledUptoRow.holds Try.pinned (OpenSpec.upto rcondScaledSpec)

end Rows
end Go.Proofs.Ythjjpbcmimpjbaa
