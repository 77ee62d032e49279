/- A part of the proofs of this seat: LG. No condition is set. -/
import Derived.Test.YtfnjkmdcmokciaaSxZ
set_option linter.unusedVariables false
set_option linter.unusedSimpArgs false
namespace Go.Sx
def gerG (g : Nat → Nat → Nat) (a : Nat) (xs ys : Nat → Nat) : Nat → Nat → Nat := fun i j => fadd (g i j) (fmul (fmul a (ys j)) (xs i))
def gerS (g : Nat → Nat → Nat) (a : Nat) (xs ys : Nat → Nat) (r t : Nat) : Nat → Nat → Nat := fun i j => if j * r + i < t then gerG g a xs ys i j else g i j
theorem gerS_zero {g : Nat → Nat → Nat} {a : Nat} {xs ys : Nat → Nat} {r : Nat} (i j : Nat) : gerS g a xs ys r 0 i j = g i j := by unfold gerS; rw [if_neg (by omega)]
theorem gerS_all {g : Nat → Nat → Nat} {a : Nat} {xs ys : Nat → Nat} {r c : Nat} (i j : Nat) (hi : i < r) (hj : j < c) : gerS g a xs ys r (c * r) i j = gerG g a xs ys i j := by
  unfold gerS; rw [if_pos (ix_lt hj hi)]
theorem gerS_at {g : Nat → Nat → Nat} {a : Nat} {xs ys : Nat → Nat} {r : Nat} (i j : Nat) : gerS g a xs ys r (j * r + i) i j = g i j := by unfold gerS; rw [if_neg (by omega)]
theorem gerS_step {g : Nat → Nat → Nat} {a : Nat} {xs ys : Nat → Nat} {r i j : Nat} (hi : i < r) (i' j' : Nat) (hi' : i' < r) : updG (gerS g a xs ys r (j * r + i)) i j (gerG g a xs ys i j) i' j' = gerS g a xs ys r (j * r + i + 1) i' j' := by
  unfold updG gerS
  by_cases h : i' = i ∧ j' = j
  · obtain ⟨rfl, rfl⟩ := h
    rw [if_pos ⟨rfl, rfl⟩, if_pos (by omega)]
  · rw [if_neg h]
    by_cases h2 : j' * r + i' < j * r + i
    · rw [if_pos h2, if_pos (by omega)]
    · rw [if_neg h2, if_neg]
      intro h3
      have h4 : j' * r + i' = j * r + i := by omega
      apply h
      have h5 := ix_mod (c := r) (i := j') hi'
      have h6 := ix_mod (c := r) (i := j) hi
      have h7 := ix_div (c := r) (i := j') hi'
      have h8 := ix_div (c := r) (i := j) hi
      rw [h4] at h5 h7
      exact ⟨by omega, by omega⟩
end Go.Sx
