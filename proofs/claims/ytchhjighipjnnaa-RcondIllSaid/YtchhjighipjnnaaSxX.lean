/- A part of the proofs of this seat: SxX. No condition is set. -/
import Derived.Test.YtchhjighipjnnaaSxW
set_option linter.unusedVariables false
set_option linter.unusedSimpArgs false
namespace Go.Sx
theorem dense_good (r c : Nat) (l : List Nat) : GoodP (denseL r c l).length 0 (r : Int) (c : Int) ((max r 1 : Nat) : Int) := by
  rw [denseL_len]
  refine ⟨by omega, by omega, by omega, by omega, by omega, ?_⟩
  rcases Nat.eq_zero_or_pos r with h | h
  · exact .inl (by omega)
  rcases Nat.eq_zero_or_pos c with h' | h'
  · exact .inr (.inl (by omega))
  have e1 : max r 1 = r := Nat.max_eq_left h
  have e2 : ((r * c : Nat) : Int) = ((c : Int) - 1) * (r : Int) + (r : Int) := by
    obtain ⟨c', rfl⟩ : ∃ c', c = c' + 1 := ⟨c - 1, by omega⟩
    have : r * (c' + 1) = c' * r + r := by rw [Nat.mul_add, Nat.mul_one, Nat.mul_comm]
    rw [this]
    have h3 : ((c' + 1 : Nat) : Int) - 1 = (c' : Int) := by omega
    rw [h3]; simp
  have e3 : 0 ≤ ((c : Int) - 1) * (r : Int) := Int.mul_nonneg (by omega) (by omega)
  rw [e1]
  refine .inr (.inr ⟨by omega, by omega, by omega⟩)
theorem dense_MI (r c : Nat) (hr : r ≤ 64) (hc : c ≤ 64) (l : List Nat) : MI (denseL r c l).length 0 (r : Int) (c : Int) ((max r 1 : Nat) : Int) := by
  rw [denseL_len]
  have := Nat.mul_le_mul hr hc
  exact ⟨by omega, by omega, by omega, by omega, by omega, by omega, by omega, by omega, by omega⟩
theorem zero_MI : MI ([] : List Nat).length 0 0 0 0 := ⟨by decide, by decide, by decide, by decide, by decide, by decide, by decide, by decide, by decide⟩
theorem zero_bad : ¬ GoodP ([] : List Nat).length 0 0 0 0 := by decide
theorem v_bT {e : List (Nat × EV)} {L : List (Nat × List AV)} {H : List (List AV)} {K : St → Prop} {dd : Nat} {b : Bool} (h : b = true) (hk : K ⟨(dd, .val (.bool true)) :: e, L, H⟩) : valK dd K ⟨e, L, H⟩ (some (True, .bool b)) := by
  subst h; exact ⟨trivial, hk⟩
theorem v_feT {e : List (Nat × EV)} {L : List (Nat × List AV)} {H : List (List AV)} {K : St → Prop} {dd : Nat} {x y : Nat} (h : feq x y = true) (hk : K ⟨(dd, .val (.bool true)) :: e, L, H⟩) : valK dd K ⟨e, L, H⟩ (some (True, .bool (feq x y))) := v_bT h hk
theorem v_bF {e : List (Nat × EV)} {L : List (Nat × List AV)} {H : List (List AV)} {K : St → Prop} {dd : Nat} {b : Bool} (h : b = false) (hk : K ⟨(dd, .val (.bool false)) :: e, L, H⟩) : valK dd K ⟨e, L, H⟩ (some (True, .bool b)) := by
  subst h; exact ⟨trivial, hk⟩
end Go.Sx
