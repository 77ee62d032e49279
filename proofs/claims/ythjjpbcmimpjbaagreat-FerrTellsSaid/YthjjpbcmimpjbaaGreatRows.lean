/-
  No cell of these rows narrows 'for every input' (looked for: loops, veiled, ifaces, maps, wideKeys, modest, calm, conditions, laid).
  DERIVED. THE GIVEN ROWS OF THIS SEAT. 3 by the template 'for every input the law returns true; each argument reads behind the call as it read before'; 0 by the template 'total and deterministic' (their statements: YthjjpbcmimpjbaaGreatTotals.lean).
  GIVEN WITH THE SEED: the statements are not yours to turn. If you find one false, say at which input.
  Laid BY PROGRAM, IN A SANDBOX (cutbox-rows.mjs): the forced cells as the released guide's own fill.sh prints them over the translation 1875a73c35c43c43… (all of the seat's roots in one cut). By AI agents, Wed Nov 11 2026. No macro, syntax, notation, axiom, sorry.
-/
import Derived.Test.YthjjpbcmimpjbaaGreatChecked
import GoSem.Claim
import GoSem.ClaimJoined
import GoSem.ClaimMapViews
import Derived.JoinedTies
import Derived.KernelRfl
namespace Go.Proofs.YthjjpbcmimpjbaaGreat
/- THE CELL 'sum', in the pinned program and in every row, IS THE sha256 OF THE DUMP (.gsa) THAT YthjjpbcmimpjbaaGreatProg.lean LOADS. Nothing in Lean hashes anything: it is a label: what it is worth is what the hold of that sum in a sandbox is worth. -/
noncomputable def Tryz.pinned : Pinned := { name := "ythjjpbcmimpjbaagreat", sum := "1875a73c35c43c4305881c880dc7bfb5d48d50dbf304aac5ee77abdc3861b16e", checked := Tryz.checked }
namespace Rows
def none {H : Type} : Left H := { results := [], args := [] }

/-- 'straightedgelaw21.RcondTells': WHATEVER THE INPUT: true; the input reads as it did. -/
def rcondTellsSpec : ChangeSpec := { name := "rcondTells", fn := fun _ => fun
  | [d1, d2] => { results := [.lit (.bool true)], args := [d1, d2] }
  | _ => none }
def rcondTellsRow : OpenClaim := { program := "ythjjpbcmimpjbaagreat", sum := "1875a73c35c43c4305881c880dc7bfb5d48d50dbf304aac5ee77abdc3861b16e", func := "straightedge/straightedgelaw21.RcondTells", spec := "rcondTells", inPlace := ["math.Float64bits", "math.Float64frombits"], unfollowed := true, recurses := true, apart := false }
def RcondTellsSaid : Prop := rcondTellsRow.holds Tryz.pinned (OpenSpec.ofChange rcondTellsSpec)

/-- ITS FALSE NEIGHBOUR: 'it returns false'. Refute it at one input. -/
def rcondTellsWrong : ChangeSpec := { name := "rcondTells", fn := fun _ => fun
  | [d1, d2] => { results := [.lit (.bool false)], args := [d1, d2] }
  | _ => none }
def RcondTellsWrongFalsely : Prop := rcondTellsRow.holds Tryz.pinned (OpenSpec.ofChange rcondTellsWrong)

/-- 'straightedgelaw24.FerrTells': WHATEVER THE INPUT: true; the input reads as it did. -/
def ferrTellsSpec : ChangeSpec := { name := "ferrTells", fn := fun _ => fun
  | [d1, d2, d3, d4, d5, d6] => { results := [.lit (.bool true)], args := [d1, d2, d3, d4, d5, d6] }
  | _ => none }
def ferrTellsRow : OpenClaim := { program := "ythjjpbcmimpjbaagreat", sum := "1875a73c35c43c4305881c880dc7bfb5d48d50dbf304aac5ee77abdc3861b16e", func := "straightedge/straightedgelaw24.FerrTells", spec := "ferrTells", inPlace := ["math.Float64bits", "math.Float64frombits"], unfollowed := true, recurses := true, apart := false }
def FerrTellsSaid : Prop := ferrTellsRow.holds Tryz.pinned (OpenSpec.ofChange ferrTellsSpec)

/-- ITS FALSE NEIGHBOUR: 'it returns false'. Refute it at one input. -/
def ferrTellsWrong : ChangeSpec := { name := "ferrTells", fn := fun _ => fun
  | [d1, d2, d3, d4, d5, d6] => { results := [.lit (.bool false)], args := [d1, d2, d3, d4, d5, d6] }
  | _ => none }
def FerrTellsWrongFalsely : Prop := ferrTellsRow.holds Tryz.pinned (OpenSpec.ofChange ferrTellsWrong)

/-- 'straightedgelaw24.FerrBounds': WHATEVER THE INPUT: true; the input reads as it did. -/
def ferrBoundsSpec : ChangeSpec := { name := "ferrBounds", fn := fun _ => fun
  | [d1, d2, d3, d4, d5, d6] => { results := [.lit (.bool true)], args := [d1, d2, d3, d4, d5, d6] }
  | _ => none }
def ferrBoundsRow : OpenClaim := { program := "ythjjpbcmimpjbaagreat", sum := "1875a73c35c43c4305881c880dc7bfb5d48d50dbf304aac5ee77abdc3861b16e", func := "straightedge/straightedgelaw24.FerrBounds", spec := "ferrBounds", inPlace := ["math.Float64bits", "math.Float64frombits"], unfollowed := true, recurses := true, apart := false }
def FerrBoundsSaid : Prop := ferrBoundsRow.holds Tryz.pinned (OpenSpec.ofChange ferrBoundsSpec)

/-- ITS FALSE NEIGHBOUR: 'it returns false'. Refute it at one input. -/
def ferrBoundsWrong : ChangeSpec := { name := "ferrBounds", fn := fun _ => fun
  | [d1, d2, d3, d4, d5, d6] => { results := [.lit (.bool false)], args := [d1, d2, d3, d4, d5, d6] }
  | _ => none }
def FerrBoundsWrongFalsely : Prop := ferrBoundsRow.holds Tryz.pinned (OpenSpec.ofChange ferrBoundsWrong)

/- THE SECOND FORM. 'bulk': how many values and letters a reading holds, each counted each time it is reached (what is shared counts as often as it is met; a slice's spare places count too). A statement '..UptoSaid' is the law's where the arguments, and the package variables that the reading takes, are together of bulk at most 1048576: NARROWER than '..Said'. Prove '..Said' where nothing that the law and all that it calls make is longer than what came in: it says more and counts as full. Else prove '..UptoSaid'. A law counts once. -/
mutual
def uptoBulk {H : Type} : DataW H → Nat
  | .lit (.string bytes) => bytes.length + 1
  | .lit _ => 1
  | .nil => 1
  | .ptr d => uptoBulk d + 1
  | .slice elems spare => uptoBulkAll elems + uptoBulkAll spare + 1
  | .agg parts => uptoBulkAll parts + 1
  | .iface _ d => uptoBulk d + 1
  | .map entries => uptoBulkEntries entries + 1
  | .held _ => 1
def uptoBulkAll {H : Type} : List (DataW H) → Nat
  | [] => 0
  | d :: r => uptoBulk d + uptoBulkAll r
def uptoBulkEntries {H : Type} : List (Lit × DataW H) → Nat
  | [] => 0
  | x :: r => uptoBulkEntry x + uptoBulkEntries r
def uptoBulkEntry {H : Type} : Lit × DataW H → Nat
  | (.string bytes, d) => bytes.length + uptoBulk d + 1
  | (_, d) => uptoBulk d + 1
 end
def uptoSmall : (H : Type) → List (DataW H) → Bool := fun _ ds => decide (uptoBulkAll ds ≤ 1048576)
def OpenSpec.upto (s : _root_.Go.ChangeSpec) : _root_.Go.OpenSpec := { _root_.Go.OpenSpec.ofChange s with cond := some uptoSmall }

/-- 'straightedgelaw21.RcondTells', WHERE WHAT IT READS IS OF BULK AT MOST 1048576: true; the input reads as it did. -/
def rcondTellsUptoRow : OpenClaim := { program := "ythjjpbcmimpjbaagreat", sum := "1875a73c35c43c4305881c880dc7bfb5d48d50dbf304aac5ee77abdc3861b16e", func := "straightedge/straightedgelaw21.RcondTells", spec := "rcondTells", inPlace := ["math.Float64bits", "math.Float64frombits"], unfollowed := true, recurses := true, apart := false, narrowed := true }
def RcondTellsUptoSaid : Prop := rcondTellsUptoRow.holds Tryz.pinned (OpenSpec.upto rcondTellsSpec)

/-- 'straightedgelaw24.FerrTells', WHERE WHAT IT READS IS OF BULK AT MOST 1048576: true; the input reads as it did. -/
def ferrTellsUptoRow : OpenClaim := { program := "ythjjpbcmimpjbaagreat", sum := "1875a73c35c43c4305881c880dc7bfb5d48d50dbf304aac5ee77abdc3861b16e", func := "straightedge/straightedgelaw24.FerrTells", spec := "ferrTells", inPlace := ["math.Float64bits", "math.Float64frombits"], unfollowed := true, recurses := true, apart := false, narrowed := true }
def FerrTellsUptoSaid : Prop := ferrTellsUptoRow.holds Tryz.pinned (OpenSpec.upto ferrTellsSpec)

/-- 'straightedgelaw24.FerrBounds', WHERE WHAT IT READS IS OF BULK AT MOST 1048576: true; the input reads as it did. -/
def ferrBoundsUptoRow : OpenClaim := { program := "ythjjpbcmimpjbaagreat", sum := "1875a73c35c43c4305881c880dc7bfb5d48d50dbf304aac5ee77abdc3861b16e", func := "straightedge/straightedgelaw24.FerrBounds", spec := "ferrBounds", inPlace := ["math.Float64bits", "math.Float64frombits"], unfollowed := true, recurses := true, apart := false, narrowed := true }
def FerrBoundsUptoSaid : Prop := ferrBoundsUptoRow.holds Tryz.pinned (OpenSpec.upto ferrBoundsSpec)

end Rows
end Go.Proofs.YthjjpbcmimpjbaaGreat
