/- A part of the proofs of this seat: RF. No condition is set. -/
import Derived.Test.YtchhjighipjnnaaRE
set_option linter.unusedVariables false
namespace Go.Sx
def ordF (l : List (Nat × Nat × List Nat × (Bool × List Nat) × List Nat × List (Nat × DFl))) (f id : Nat) : Option (List Nat × (Bool × List Nat) × List Nat × List (Nat × DFl)) :=
  match l with
  | [] => none
  | (a, b, r) :: t => match Nat.beq a f && Nat.beq b id with
    | true => some r
    | false => ordF t f id
end Go.Sx
