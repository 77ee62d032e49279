/- A part of the proofs of this seat: FX. No condition is set. -/
import Derived.Test.YtchhjighipjnnaaSxX
set_option linter.unusedVariables false
namespace Go.Sx
/-! ### how floats stand to each other -/
theorem cmp_swap (a b : Int) : compare b a = (compare a b).swap := by
  simp only [compare, compareOfLessAndEq]
  split <;> split <;> (try split) <;> (try split) <;> first | rfl | omega
theorem ncmp_swap (a b : Nat) : compare b a = (compare a b).swap := by
  simp only [compare, compareOfLessAndEq]
  split <;> split <;> (try split) <;> (try split) <;> first | rfl | omega
theorem datum_swap (a b : Ieee.Datum) : b.order a = (a.order b).map Ordering.swap := by
  cases a <;> cases b <;> simp only [Ieee.Datum.order, Option.map_none, Option.map_some]
  · rename_i s m i t n j
    rw [show min i j = min j i from by omega, cmp_swap]
  · rename_i s m i t; cases t <;> rfl
  · rename_i s t n j; cases s <;> rfl
  · rename_i s t; cases s <;> cases t <;> rfl
theorem datum_none (a b : Ieee.Datum) : a.order b = none ↔ a.isNaN = true ∨ b.isNaN = true := by
  cases a <;> cases b <;> simp [Ieee.Datum.order, Ieee.Datum.isNaN]
theorem order_swap (x y : Nat) : Ieee.double.order y x = (Ieee.double.order x y).map Ordering.swap := datum_swap _ _
theorem order_none {x y : Nat} : Ieee.double.order x y = none ↔ isNaN x = true ∨ isNaN y = true := datum_none _ _
theorem order_self {x : Nat} (h : isNaN x = false) : Ieee.double.order x x = some .eq := by
  cases ho : Ieee.double.order x x with
  | none => rcases order_none.1 ho with h' | h' <;> rw [h] at h' <;> cases h'
  | some o =>
    have := order_swap x x
    rw [ho] at this
    cases o <;> first | rfl | (simp [Ordering.swap] at this)
theorem flt_swap (x y : Nat) : flt y x = (Ieee.double.order x y == some .gt) := by
  unfold flt
  rw [order_swap x y]
  cases Ieee.double.order x y with
  | none => rfl
  | some o => cases o <;> rfl
theorem feq_self (x : Nat) : feq x x = !isNaN x := by
  cases h : isNaN x with
  | false => unfold feq; rw [order_self h]; rfl
  | true => unfold feq; rw [order_none.2 (.inl h)]; rfl
theorem not_geq {x c : Nat} (hc : isNaN c = false) : (!(flt c x || feq x c)) = (flt x c || !feq x x) := by
  rw [feq_self, flt_swap x c]
  unfold flt feq
  cases h : Ieee.double.order x c with
  | none =>
    rcases order_none.1 h with h' | h'
    · rw [h']; rfl
    · rw [hc] at h'; cases h'
  | some o =>
    have : isNaN x = false := by
      cases hx : isNaN x with
      | false => rfl
      | true => rw [order_none.2 (.inl hx)] at h; cases h
    rw [this]
    cases o <;> rfl
end Go.Sx
