/- A part of the proofs of this seat: LP. No condition is set. -/
import Derived.Test.YtfnjkmdcmokciaaLD
set_option linter.unusedVariables false
set_option linter.unusedSimpArgs false
namespace Go.Sx
/-! ### pivots -/
def pivP (p : List Int) : Prop := ∀ k, k < p.length → ((k : Int) ≤ p.getD k 0 ∧ p.getD k 0 < p.length)
instance (p : List Int) : Decidable (pivP p) := by unfold pivP; infer_instance
theorem first_bad (q : Nat → Prop) [DecidablePred q] : ∀ n, ∃ N, N ≤ n ∧ (∀ k, k < N → q k) ∧ (N < n → ¬ q N)
  | 0 => ⟨0, Nat.le_refl _, fun k hk => by omega, fun h => by omega⟩
  | n + 1 => by
    obtain ⟨N, h1, h2, h3⟩ := first_bad q n
    by_cases h : N < n
    · exact ⟨N, by omega, h2, fun _ => h3 h⟩
    · have : N = n := by omega
      subst this
      by_cases hq : q N
      · exact ⟨N + 1, Nat.le_refl _, fun k hk => by rcases Nat.lt_succ_iff_lt_or_eq.1 hk with h | h; exact h2 k h; exact h ▸ hq, fun h => by omega⟩
      · exact ⟨N, by omega, h2, fun _ => hq⟩
theorem eq_of_getI {la lb : List Int} (hl : la.length = lb.length) (h : ∀ k, k < la.length → la.getD k 0 = lb.getD k 0) : la = lb := by
  apply List.ext_getElem hl
  intro i h1 h2
  have := h i h1
  simpa [List.getD, h1, h2] using this
theorem pvL_get {g : Nat → Nat → Nat} {n m k : Nat} (hk : k < m) : (pvL g n m).getD k 0 = (pvK (stG g n k) k n : Int) := by
  simp [pvL, List.getD, hk]
theorem pvL_piv (g : Nat → Nat → Nat) (n : Nat) : pivP (pvL g n n) := by
  intro k hk
  simp only [pvL_len] at hk ⊢
  rw [pvL_get hk]
  have h1 := pvK_lt (g := stG g n k) hk
  have h2 := pvK_ge (g := stG g n k) (k := k) (n := n)
  omega
theorem of_cm {g : Nat → Nat → Nat} {n : Nat} : rmA (mel (cmA g n n) 0 ((max n 1 : Nat) : Int)) n n = rmA g n n := rmA_congr fun i j hi hj => mel_cm hi hj
end Go.Sx
